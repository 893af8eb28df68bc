/- The walk of arith.Sigma. -/
import Derived.Test.YtjmldlbiihaefaaDoorRbgE
import Derived.Test.YtjmldlbiihaefaaDoorAriS
namespace Go.Proofs.YtjmldlbiihaefaaDoor
open Go.RowKit HP

/-- the sum of the k-th powers -/
def powSum (k : Nat) : List Nat → Nat
  | [] => 0
  | d :: l => d ^ k + powSum k l
theorem powSum_append (k : Nat) : ∀ l m, powSum k (l ++ m) = powSum k l + powSum k m
  | [], m => by simp [powSum]
  | d :: l, m => by rw [List.cons_append, powSum, powSum, powSum_append k l m, Nat.add_assoc]
theorem powSum_next {k : Nat} {l : List Nat} {i d : Nat} (h : l[i]? = some d) : powSum k (l.take (i + 1)) = powSum k (l.take i) + d ^ k := by
  rw [List.take_add_one, h, powSum_append]
  simp [powSum]
theorem powSum_lt {k : Nat} (hk : k ≤ 64) : ∀ (l : List Nat), (∀ d ∈ l, d < 4294967296) → powSum k l ≤ l.length * W32 ^ 65
  | [], _ => by simp [powSum]
  | d :: l, h => by
    have h1 := pow_bound (h d (List.mem_cons_self ..)) hk
    have h2 := powSum_lt hk l fun x hx => h x (List.mem_cons_of_mem _ hx)
    rw [powSum, List.length_cons, Nat.add_mul, Nat.one_mul]
    omega
theorem of_natv (N : Nat) (w : World) (hN : N ≤ 9223372036854775807) :
    Calls Tryd.prog 77 #[.int .i64 N] w fun x w' => ∃ r, x = .returned (.agg #[.bool false, r]) ∧ NatAt w' r N ∧ Below w.heap.size w w' := by
  refine (of_nat N w hN).mono ?_
  rintro e w' ⟨val, rfl, ⟨r, rfl, hr⟩, hb⟩
  rw [Int.natAbs_natCast] at hr
  exact ⟨r, by rw [bool_nat], hr, hb⟩
theorem add_natv (v u : Value) (x y K : Nat) (w : World) (hv : NatAt w v x) (hu : NatAt w u y) (hx : x < W32 ^ K) (hy : y < W32 ^ K) (hK : K ≤ 1000000) :
    Calls Tryd.prog 79 #[.agg #[.bool false, v], .agg #[.bool false, u]] w fun e w' => ∃ r, e = .returned (.agg #[.bool false, r]) ∧ NatAt w' r (x + y) ∧ Below w.heap.size w w' := by
  refine (Add_any (.agg #[.bool false, v]) (.agg #[.bool false, u]) x y K w ⟨v, by rw [bool_nat], by rw [Int.natAbs_natCast]; exact hv⟩ ⟨u, by rw [bool_nat], by rw [Int.natAbs_natCast]; exact hu⟩ hx hy hK).mono ?_
  rintro e w' ⟨val, rfl, ⟨r, rfl, hr⟩, hb⟩
  rw [Int.natAbs_natCast] at hr
  exact ⟨r, by rw [bool_nat], hr, hb⟩

theorem resW_other {w w1 : World} {B : Nat} (h : ResW w w1) (hne : w.heap.size ≠ B) (u1 u2 : Value) (hB : w.heap.size ≤ B := by omega) : ResW w ((w1.setCell ⟨B, 0, none⟩ u1).setCell ⟨B, 1, none⟩ u2) := by
  obtain ⟨⟨b, u, h1, h2⟩, h3, h4, h5, h6⟩ := h
  exact ⟨⟨b, u, cell_set2 hne h1, cell_set2 hne h2⟩, by rw [World.frozen?_setCell, World.frozen?_setCell]; exact h3, by rw [World.frozen?_setCell, World.frozen?_setCell]; exact h4, (h5.setCell hB _).setCell hB _, by simpa [World.setCell] using h6⟩
set_option maxHeartbeats 4000000 in
set_option maxRecDepth 100000 in
theorem sigma_any (k N : Nat) (w : World) (hk : k ≤ 64) (hN0 : 1 ≤ N) (hN : N ≤ 2147483647) :
    Calls Tryd.prog 49 #[.int .i64 k, .int .i64 N] w fun e w' => ∃ r, e = .returned (.tuple #[.agg #[.bool false, r], .int .i64 0]) ∧ NatAt w' r (powSum k (dvs N)) ∧ Below w.heap.size w w' := by
  have cd := fun w => divisors_any N w hN0 hN
  have hmem : ∀ (i d : Nat), (dvs N)[i]? = some d → d ≠ 0 ∧ d < 4294967296 := fun i d h => by
    have h1 := (dvs_mem (show 0 < N by omega)).1 (List.mem_of_getElem? h)
    have h2 := Nat.le_of_dvd (by omega) h1
    have h3 := Nat.pos_of_dvd_of_pos h1 (by omega)
    omega
  have hsum : ∀ i, powSum k ((dvs N).take i) < W32 ^ 70 := fun i => by
    have h1 := powSum_lt hk ((dvs N).take i) fun d hd => by
      obtain ⟨j, hj, hjd⟩ := List.mem_iff_getElem.1 (List.mem_of_mem_take hd)
      exact (hmem j d (List.getElem?_eq_some_iff.2 ⟨hj, hjd⟩)).2
    have h2 : ((dvs N).take i).length ≤ W32 := by
      have h3 : (dvs N).length ≤ N + 1 := by
        unfold dvs
        exact Nat.le_trans (List.length_filter_le _ _) (by simp)
      rw [List.length_take, w32_eq]
      omega
    have h4 : ((dvs N).take i).length * W32 ^ 65 ≤ W32 * W32 ^ 65 := Nat.mul_le_mul_right _ h2
    have h5 : W32 * W32 ^ 65 < W32 ^ 70 := by
      rw [Nat.mul_comm, ← Nat.pow_succ]
      exact Nat.pow_lt_pow_right (by decide) (by omega)
    omega
  have hlen : (dvs N).length ≤ 2147483648 := by
    unfold dvs
    exact Nat.le_trans (List.length_filter_le _ _) (by simp; omega)
  have hpos : 1 ≤ (dvs N).length := List.length_pos_of_mem ((dvs_mem (show 0 < N by omega)).2 (Nat.dvd_refl N))
  generalize dvs N = D at *
  have CD := Lib.hid cd
  have HM := Lib.hid hmem
  have HSUM := Lib.hid hsum
  have t1 : decide ((k : Int) < 0) = false := by simp
  have t2 : decide ((64 : Int) < (k : Int)) = false := by rw [decide_eq_false_iff_not]; omega
  have t2' : decide (64 < k) = false := by rw [decide_eq_false_iff_not]; omega
  have HRES := Lib.hid (resW_start w 69)
  clear cd hmem hsum
  go_enter Tryd.func49, Tryd.ntmps49
  go_wp2_with (go_at_call 61; refine (inRange_yes N _ (by omega) (by omega)).mono ?_; rintro x w' ⟨rfl, rfl⟩)
  refine (CD.out _).mono ?_
  rintro _ w1 ⟨v, rfl, hv, hb1⟩
  have HR1 := Lib.hid (resW_next HRES.out hb1)
  clear hb1
  go_wp2_with fail
  refine (of_natv 0 _ (by omega)).mono ?_
  rintro _ w2 ⟨r0, rfl, hr0, hb2⟩
  have HR2 := Lib.hid (resW_next HR1.out hb2)
  have hv2 := IntsAt.below hv hb2 (Nat.le_refl _)
  have HV0 := Lib.hid hr0
  have hsr := natAt_shape hr0
  clear hb2 hv hr0
  rcases hv2 with ⟨rfl, h⟩ | ⟨g, cap, rfl, hg1, hg2, _, hg4, hcells⟩
  · have : D = [] := by unfold intL at h; exact List.map_eq_nil_iff.1 h
    rw [this] at hpos
    simp at hpos
  have HC := Lib.hid hcells
  clear hcells
  rw [intL_len] at *
  have hba := fun r => below_res w2 (.cells #[.bool false, r] 69)
  have HS0 := Lib.hid (varN_made w2 69 HV0.out)
  have HR3 := Lib.hid (resW_next HR2.out (hba r0))
  have HB3 := Lib.hid (hba r0)
  have hw2 : w.heap.size + 1 ≤ w2.heap.size := HR2.out.2.2.2.2
  clear hba
  rcases hsr with rfl | ⟨gr, nr, cr, rfl⟩
  all_goals
    go_wp2_with fail
    go_loopw [33] (fun y wr => ∃ i : Nat, y = .int .i64 i ∧ i ≤ D.length ∧ Hid (VarN wr w2.heap.size (powSum k (D.take i))) ∧ Hid (ResW w wr) ∧ Hid (Below w2.heap.size w2 wr)) (fun y _ => D.length - (intOf y).toNat)
    case atStart => exact ⟨0, rfl, Nat.zero_le _, HS0, HR3, HB3⟩
    case round =>
      obtain ⟨i, rfl, hi, HS, HR, HB⟩ := hrel
      by_cases hin : i < D.length
      · obtain ⟨d, hd⟩ : ∃ d, D[i]? = some d := ⟨D[i]'hin, List.getElem?_eq_getElem hin⟩
        obtain ⟨d0, d1⟩ := HM.out i d hd
        have hcell := (HB.out.cell (p := ⟨g, i, none⟩) hg4).trans (HC.out i d (intL_at hd))
        have hnext := powSum_next (k := k) hd
        have hb1 := HSUM.out i
        have hb2 := HSUM.out (i + 1)
        have hdk : d ^ k ≠ 0 := fun h => by have : 0 < d ^ k := Nat.pow_pos (by omega); omega
        have hdb : d ^ k < W32 ^ 70 := by omega
        have HN := Lib.hid hnext
        clear hd hnext hb2
        go_wp2_with fail
        refine (of_natv d _ (by omega)).mono ?_
        rintro _ w3 ⟨r1, rfl, hr1, hb3⟩
        have HS1 := Lib.hid (varN_next HS.out hb3)
        have HR1' := Lib.hid (resW_next HR.out hb3)
        have HB1' := Lib.hid (HB.out.trans (hb3.mono HB.out.size))
        clear hb3 hcell
        go_wp2_with fail
        refine (pow_small r1 d k _ hr1 d0 d1 hk).mono ?_
        rintro _ w4 ⟨r2, rfl, hr2, hb4⟩
        obtain ⟨g2, n2, c2, rfl⟩ := natAt_slice hr2 hdk
        have hba := below_res w4 (.cells #[.bool false, .slice (some ⟨g2, 0, none⟩) n2 c2] 69)
        have HS2 := Lib.hid (varN_next (varN_next HS1.out hb4) hba)
        have HR2' := Lib.hid (resW_next (resW_next HR1'.out hb4) hba)
        have HB2' := Lib.hid ((HB1'.out.trans (hb4.mono HB1'.out.size)).trans (hba.mono (by have := HB1'.out.size; have := hb4.size; omega)))
        obtain ⟨⟨u, p1, p2, p3⟩, p4, p5, p6⟩ := HS2.out
        have ca := add_natv u _ _ _ 70 _ p3 (hr2.below hba (Nat.le_refl _)) hb1 hdb (by omega)
        have CA := Lib.hid ca
        clear hr1 hr2 hb4 hba p3 ca
        go_wp2_with fail
        refine CA.out.mono ?_
        rintro _ w5 ⟨r3, rfl, hr3, hb5⟩
        have hs5 := varN_next HS2.out hb5
        have HS3 := Lib.hid (varN_set hs5 hr3)
        obtain ⟨⟨u5, q1, q2, q3⟩, q4, q5, q6⟩ := hs5
        have hr5 := resW_next HR2'.out hb5
        have HB5 := Lib.hid (HB2'.out.trans (hb5.mono HB2'.out.size))
        have hsr3 := natAt_shape hr3
        clear hr3
        rcases hsr3 with rfl | ⟨g3, n3, c3, rfl⟩
        all_goals
          go_wp2_with fail
          go_roundw
          case rel => exact ⟨i + 1, by go_num, by omega, by rw [HN.out]; exact HS3, Lib.hid (resW_other hr5 (by omega) _ _), Lib.hid ((HB5.out.setCell (by exact Nat.le_refl _) _).setCell (by exact Nat.le_refl _) _)⟩
          case measure => simp [intOf]; omega
      · have hi' : i = D.length := by omega
        subst hi'
        clear hin
        obtain ⟨⟨u, p1, p2, p3⟩, p4, p5, p6⟩ := HS.out
        rw [List.take_length] at p3
        obtain ⟨⟨bb, uu, k0, k1⟩, k2, k3, k4, k5⟩ := HR.out
        have hn := natAt_set p3 k0 (.bool false) u
        have hrb := resW_set HR.out (.bool false) u
        have hsh := natAt_shape p3
        clear p3 k4
        rcases hsh with rfl | ⟨g3, n3, c3, rfl⟩
        · go_wp2_with fail
          refine bodyPost_ret (v := .tuple #[.agg #[.bool false, .slice none 0 0], .int .i64 0]) (by simp [results, Tryd.results49, go_sem, k0, k1]) rfl ⟨_, rfl, hn, hrb⟩
        · go_wp2_with fail
          refine bodyPost_ret (v := .tuple #[.agg #[.bool false, .slice (some ⟨g3, 0, none⟩) n3 c3], .int .i64 0]) (by simp [results, Tryd.results49, go_sem, k0, k1]) rfl ⟨_, rfl, hn, hrb⟩

set_option maxHeartbeats 4000000 in
set_option maxRecDepth 100000 in
theorem sigma_no (k N : Int) (w : World) (h : k < 0 ∨ 64 < k ∨ N < 1 ∨ 2147483647 < N) :
    Calls Tryd.prog 49 #[.int .i64 k, .int .i64 N] w fun e w' => e = .returned (.tuple #[.agg #[.bool false, .slice none 0 0], .int .i64 2]) ∧ Below w.heap.size w w' := by
  have k0 : (w.alloc (.cells #[.bool false, .slice none 0 0] 69)).cell? ⟨w.heap.size, 0, none⟩ = some (.bool false) := by rw [World.cell?_alloc_at _ _ _ _ rfl]; rfl
  have k1 : (w.alloc (.cells #[.bool false, .slice none 0 0] 69)).cell? ⟨w.heap.size, 1, none⟩ = some (.slice none 0 0) := by rw [World.cell?_alloc_at _ _ _ _ rfl]; rfl
  have hba := below_res w (.cells #[.bool false, .slice none 0 0] 69)
  have HBA := Lib.hid hba
  clear hba
  by_cases hN : N < 1 ∨ 2147483647 < N
  · go_enter Tryd.func49, Tryd.ntmps49
    go_wp2_with (go_at_call 61; refine (inRange_no N _ hN).mono ?_; rintro x w' ⟨rfl, rfl⟩)
    refine bodyPost_ret (v := .tuple #[.agg #[.bool false, .slice none 0 0], .int .i64 2]) (by simp [results, Tryd.results49, go_sem, k0, k1]) rfl ⟨rfl, HBA.out⟩
  · by_cases hk : k < 0
    · have t1 : decide (k < 0) = true := decide_eq_true hk
      go_enter Tryd.func49, Tryd.ntmps49
      go_wp2_with (go_at_call 61; refine (inRange_yes N _ (by omega) (by omega)).mono ?_; rintro x w' ⟨rfl, rfl⟩)
      refine bodyPost_ret (v := .tuple #[.agg #[.bool false, .slice none 0 0], .int .i64 2]) (by simp [results, Tryd.results49, go_sem, k0, k1]) rfl ⟨rfl, HBA.out⟩
    · have t1 : decide (k < 0) = false := decide_eq_false hk
      have t2 : decide (64 < k) = true := decide_eq_true (by omega)
      go_enter Tryd.func49, Tryd.ntmps49
      go_wp2_with (go_at_call 61; refine (inRange_yes N _ (by omega) (by omega)).mono ?_; rintro x w' ⟨rfl, rfl⟩)
      refine bodyPost_ret (v := .tuple #[.agg #[.bool false, .slice none 0 0], .int .i64 2]) (by simp [results, Tryd.results49, go_sem, k0, k1]) rfl ⟨rfl, HBA.out⟩
end Go.Proofs.YtjmldlbiihaefaaDoor
