/- The walk of the reference's Sigma. -/
import Derived.Test.YtjmldlbiihaefaaDoorSigA
import Derived.Test.YtjmldlbiihaefaaDoorRbgH
import Derived.Test.YtjmldlbiihaefaaDoorRefI
namespace Go.Proofs.YtjmldlbiihaefaaDoor
open Go.RowKit HP

set_option maxHeartbeats 2000000 in
set_option maxRecDepth 100000 in
theorem rof_full (N : Nat) (w : World) (hN : N ≤ 9223372036854775807) :
    Calls Tryd.prog 80 #[.int .i64 N] w fun x w' => ∃ g n cap, x = .returned (.agg #[.bool false, .slice (some ⟨g, 0, none⟩) n cap]) ∧ NatAt w' (.slice (some ⟨g, 0, none⟩) n cap) N ∧ Below w.heap.size w w' := by
  have t0 : decide ((N : Int) < 0) = false := by simp
  have hres := fun o => resW_next (resW_start w 69) (below_res (w.alloc (.cells #[.bool false, .slice none 0 0] 69)) o)
  have hu := u32At_two (w.alloc (.cells #[.bool false, .slice none 0 0] 69)) (N % 4294967296) (N / 4294967296) 87
  have hs : (w.alloc (.cells #[.bool false, .slice none 0 0] 69)).heap.size = w.heap.size + 1 := by simp
  have e1 : (N : Int) % 4294967296 = ((N % 4294967296 : Nat) : Int) := by omega
  have e2 : (N : Int) / 4294967296 = ((N / 4294967296 : Nat) : Int) := by omega
  rw [← e1, ← e2, hs] at hu
  have hval : valF (fun i => if i = 0 then N % 4294967296 else N / 4294967296) 2 = N := by
    simp [valF, W32]; omega
  have c := fun W (h : U32At W (.slice (some ⟨w.heap.size + 1, 0, none⟩) 2 2) 2 (fun i => if i = 0 then N % 4294967296 else N / 4294967296)) => rsigned_full false _ 2 _ W h (fun i hi => by
    show (if i = 0 then _ else _) < 4294967296
    split <;> omega) (by omega)
  rw [hval, Bool.false_and] at c
  have C := Lib.hid c
  have HU := Lib.hid hu
  have HRES := Lib.hid hres
  clear c hu hres hval e1 e2
  go_enter Tryd.func80, Tryd.ntmps80
  go_wp2_with fail
  refine (C.out _ HU.out).mono ?_
  rintro _ w1 ⟨g2, n2, cap2, rfl, hr, hb1⟩
  have HR1 := Lib.hid (resW_next (HRES.out _) hb1)
  obtain ⟨⟨rb, ru, k0, k1⟩, k2, k3, _, k4⟩ := HR1.out
  have hlt : w.heap.size < w1.heap.size := by omega
  have HR := Lib.hid hr
  clear hr hb1
  go_wp2
  refine bodyPost_ret (v := .agg #[.bool false, .slice (some ⟨g2, 0, none⟩) n2 cap2]) (by simp [results, Tryd.results80, go_sem, k0, k1]) rfl ⟨_, _, _, rfl, natAt_set HR.out k0 _ _, resW_set HR1.out _ _⟩

theorem radd_nat (g n cap g' m cap' : Nat) (x y K : Nat) (w : World) (hv : NatAt w (.slice (some ⟨g, 0, none⟩) n cap) x) (hu : NatAt w (.slice (some ⟨g', 0, none⟩) m cap') y) (hx : x < W32 ^ K) (hy : y < W32 ^ K) (hK : K ≤ 1000000) :
    Calls Tryd.prog 81 #[.agg #[.bool false, .slice (some ⟨g, 0, none⟩) n cap], .agg #[.bool false, .slice (some ⟨g', 0, none⟩) m cap']] w fun e w' => ∃ r, e = .returned r ∧ IntV w' r ((x + y : Nat) : Int) ∧ Below w.heap.size w w' := by
  have c := radd_same g n cap g' m cap' (x : Int) (y : Int) K w ⟨_, rfl, by rw [Int.natAbs_natCast]; exact hv⟩ ⟨_, rfl, by rw [Int.natAbs_natCast]; exact hu⟩ (by rw [Int.natAbs_natCast]; exact hx) (by rw [Int.natAbs_natCast]; exact hy) hK (by rw [bool_nat, bool_nat])
  rw [bool_nat, bool_nat, ← Int.natCast_add] at c
  exact c
/-- a variable with a number whose digits lie in a block -/
def VarS (wr : World) (A x : Nat) : Prop := (∃ g n cap, wr.cell? ⟨A, 0, none⟩ = some (.bool false) ∧ wr.cell? ⟨A, 1, none⟩ = some (.slice (some ⟨g, 0, none⟩) n cap) ∧ NatAt wr (.slice (some ⟨g, 0, none⟩) n cap) x) ∧ wr.frozen? ⟨A, 0, none⟩ = false ∧ wr.frozen? ⟨A, 1, none⟩ = false ∧ A < wr.heap.size
theorem varS_made (w : World) (t : TypeId) {g n cap x : Nat} (hv : NatAt w (.slice (some ⟨g, 0, none⟩) n cap) x) : VarS (w.alloc (.cells #[.bool false, .slice (some ⟨g, 0, none⟩) n cap] t)) w.heap.size x := by
  obtain ⟨_, h4, h5, h6⟩ := varN_made w t hv
  refine ⟨⟨g, n, cap, ?_, ?_, hv.below (below_res w _) (Nat.le_refl _)⟩, h4, h5, h6⟩
  · rw [World.cell?_alloc_at _ _ _ _ rfl]; rfl
  · rw [World.cell?_alloc_at _ _ _ _ rfl]; rfl
theorem varS_next {wr w1 : World} {A x : Nat} (h : VarS wr A x) (hb : Below wr.heap.size wr w1) : VarS w1 A x := by
  obtain ⟨⟨g, n, cap, h1, h2, h3⟩, h4, h5, h6⟩ := h
  exact ⟨⟨g, n, cap, (hb.cell (p := ⟨A, 0, none⟩) h6).trans h1, (hb.cell (p := ⟨A, 1, none⟩) h6).trans h2, h3.below hb (Nat.le_refl _)⟩, (hb.frozen (p := ⟨A, 0, none⟩) h6).trans h4, (hb.frozen (p := ⟨A, 1, none⟩) h6).trans h5, by have := hb.size; omega⟩
theorem varS_set {w1 : World} {A x y g n cap : Nat} (h : VarS w1 A x) (hr : NatAt w1 (.slice (some ⟨g, 0, none⟩) n cap) y) : VarS ((w1.setCell ⟨A, 0, none⟩ (.bool false)).setCell ⟨A, 1, none⟩ (.slice (some ⟨g, 0, none⟩) n cap)) A y := by
  obtain ⟨⟨_, _, _, h1, h2, h3⟩, h4, h5, h6⟩ := h
  refine ⟨⟨g, n, cap, ?_, World.cell?_setCell_same _ _ _ ((World.cell?_setCell_other _ _ _ _ (by simp)).trans h2), natAt_set hr h1 _ _⟩, by rw [World.frozen?_setCell, World.frozen?_setCell]; exact h4, by rw [World.frozen?_setCell, World.frozen?_setCell]; exact h5, by simpa [World.setCell] using h6⟩
  rw [World.cell?_setCell_other _ _ _ _ (by simp)]
  exact World.cell?_setCell_same _ _ _ h1
/-- the values of the region out = Add(out, Raised(Of(l[i]), k)) -/
def SigG (ca cl : Value) (g i d k s : Nat) (j : Nat) (v : Value) (w : World) : Prop :=
  match j with
  | 0 => v = ca
  | 1 => v = cl
  | 2 => v = .int .i64 (i : Int)
  | 3 => v = .pointer (some ⟨g, i, none⟩)
  | 4 => v = .int .i64 (d : Int)
  | 5 => NrmV false d v w
  | 6 => v = .int .i64 (k : Int)
  | 7 => NrmV false (d ^ k) v w
  | _ => ∃ r, v = .agg #[.bool false, r] ∧ NatAt w r s
theorem nrmV_below {s : Bool} {x : Nat} {v : Value} {w w' : World} (h : NrmV s x v w) (hb : Below w.heap.size w w') : NrmV s x v w' :=
  let ⟨g, n, cap, h1, h2⟩ := h
  ⟨g, n, cap, h1, h2.below hb (Nat.le_refl _)⟩
theorem sigG_below {ca cl : Value} {g i d k s : Nat} : ∀ (j : Nat) (v : Value) (w w' : World), Below w.heap.size w w' → SigG ca cl g i d k s j v w → SigG ca cl g i d k s j v w'
  | 0, _, _, _, _, h => h
  | 1, _, _, _, _, h => h
  | 2, _, _, _, _, h => h
  | 3, _, _, _, _, h => h
  | 4, _, _, _, _, h => h
  | 5, _, _, _, hb, h => nrmV_below h hb
  | 6, _, _, _, _, h => h
  | 7, _, _, _, hb, h => nrmV_below h hb
  | _ + 8, _, _, _, hb, ⟨r, h1, h2⟩ => ⟨r, h1, h2.below hb (Nat.le_refl _)⟩

/-- a list of machine integers is kept where a struct of another shape is stored -/
theorem sigD_set {W : World} {g V : Nat} {D : List Int} {b : Bool} {u u1 u2 : Value} (h : g < W.heap.size ∧ ∀ (i : Nat) (x : Int), D[i]? = some x → W.cell? ⟨g, i, none⟩ = some (.int .i64 x)) (h1 : W.cell? ⟨V, 0, none⟩ = some (.bool b)) (h2 : W.cell? ⟨V, 1, none⟩ = some u) (hpos : 0 < D.length := by assumption) :
    g < ((W.setCell ⟨V, 0, none⟩ u1).setCell ⟨V, 1, none⟩ u2).heap.size ∧ ∀ (i : Nat) (x : Int), D[i]? = some x → ((W.setCell ⟨V, 0, none⟩ u1).setCell ⟨V, 1, none⟩ u2).cell? ⟨g, i, none⟩ = some (.int .i64 x) := by
  have hne : g ≠ V := fun hg => by
    subst hg
    have := h.2 0 _ (List.getElem?_eq_getElem hpos)
    rw [h1] at this
    cases this
  exact ⟨by simpa [World.setCell] using h.1, fun i x hx => cell_set2 hne (h.2 i x hx)⟩
set_option maxHeartbeats 4000000 in
set_option maxRecDepth 100000 in
theorem rsigma_any (k N : Nat) (w : World) (hk : k ≤ 64) (hN0 : 1 ≤ N) (hN : N ≤ 2147483647) :
    Calls Tryd.prog 51 #[.int .i64 k, .int .i64 N] w fun e w' => ∃ r, e = .returned (.agg #[.bool false, r]) ∧ NatAt w' r (powSum k (dvs N)) ∧ Below w.heap.size w w' := by
  have cd := fun w => rdivisors_any N w hN0 hN
  have hmem : ∀ (i d : Nat), (dvs N)[i]? = some d → d ≠ 0 ∧ d < 4294967296 := fun i d h => by
    have h1 := (dvs_mem (show 0 < N by omega)).1 (List.mem_of_getElem? h)
    have h2 := Nat.le_of_dvd (by omega) h1
    have h3 := Nat.pos_of_dvd_of_pos h1 (by omega)
    omega
  have hsum : ∀ i, powSum k ((dvs N).take i) < W32 ^ 70 := fun i => by
    have h1 := powSum_lt hk ((dvs N).take i) fun d hd => by
      obtain ⟨j, hj, hjd⟩ := List.mem_iff_getElem.1 (List.mem_of_mem_take hd)
      exact (hmem j d (List.getElem?_eq_some_iff.2 ⟨hj, hjd⟩)).2
    have h2 : ((dvs N).take i).length ≤ W32 := by
      have h3 : (dvs N).length ≤ N + 1 := by
        unfold dvs
        exact Nat.le_trans (List.length_filter_le _ _) (by simp)
      rw [List.length_take, w32_eq]
      omega
    have h4 : ((dvs N).take i).length * W32 ^ 65 ≤ W32 * W32 ^ 65 := Nat.mul_le_mul_right _ h2
    have h5 : W32 * W32 ^ 65 < W32 ^ 70 := by
      rw [Nat.mul_comm, ← Nat.pow_succ]
      exact Nat.pow_lt_pow_right (by decide) (by omega)
    omega
  have hlen : (dvs N).length ≤ 2147483648 := by
    unfold dvs
    exact Nat.le_trans (List.length_filter_le _ _) (by simp; omega)
  have hpos : 1 ≤ (dvs N).length := List.length_pos_of_mem ((dvs_mem (show 0 < N by omega)).2 (Nat.dvd_refl N))
  generalize dvs N = D at *
  have CD := Lib.hid cd
  have HM := Lib.hid hmem
  have HSUM := Lib.hid hsum
  have HRES := Lib.hid (resW_start w 69)
  clear cd hmem hsum
  go_enter Tryd.func51, Tryd.ntmps51
  go_wp2_with fail
  refine (rof_full 0 _ (by omega)).mono ?_
  rintro _ w2 ⟨g0, n0, c0, rfl, hr0, hb2⟩
  have hba := below_res w2 (.cells #[.bool false, .slice (some ⟨g0, 0, none⟩) n0 c0] 69)
  have HR2 := Lib.hid (resW_next (resW_next HRES.out hb2) hba)
  have hVw : w.heap.size + 1 ≤ w2.heap.size := by have := hb2.size; simpa using this
  have hS0 := varS_made w2 69 hr0
  have HB2 := Lib.hid ((HRES.out.2.2.2.1.trans (hb2.mono HRES.out.2.2.2.1.size)).trans (hba.mono (by have := HRES.out.2.2.2.1.size; have := hb2.size; omega)))
  have HS0 := Lib.hid hS0
  clear hr0 hb2 hba hS0
  go_wp2_with fail
  refine (CD.out _).mono ?_
  rintro _ w3 ⟨v, rfl, hv, hb3⟩
  have HS1 := Lib.hid (varS_next HS0.out hb3)
  have HR3 := Lib.hid (resW_next HR2.out hb3)
  have HB3 := Lib.hid (HB2.out.trans (hb3.mono HB2.out.size))
  clear hb3
  rcases hv with ⟨rfl, h⟩ | ⟨g, cap, rfl, hg1, hg2, _, hg4, hcells⟩
  · have : D = [] := by unfold intL at h; exact List.map_eq_nil_iff.1 h
    rw [this] at hpos
    simp at hpos
  have HC := Lib.hid hcells
  clear hcells
  rw [intL_len] at *
  generalize w2.heap.size = V at *
  go_wp2_with fail
  go_loopw [7] (fun y wr => ∃ i : Nat, y = .int .i64 i ∧ i ≤ D.length ∧ Hid (VarS wr V (powSum k (D.take i))) ∧ Hid (ResW w wr) ∧ Hid (g < wr.heap.size ∧ ∀ (i : Nat) (x : Int), (intL D)[i]? = some x → wr.cell? ⟨g, i, none⟩ = some (.int .i64 x))) (fun y _ => D.length - (intOf y).toNat)
  case atStart => exact ⟨0, rfl, Nat.zero_le _, HS1, HR3, ⟨hg4, HC.out⟩⟩
  case round =>
    obtain ⟨i, rfl, hi, HS, HR, HD⟩ := hrel
    by_cases hin : i < D.length
    · obtain ⟨d, hd⟩ : ∃ d, D[i]? = some d := ⟨D[i]'hin, List.getElem?_eq_getElem hin⟩
      obtain ⟨d0, d1⟩ := HM.out i d hd
      have hcell := HD.out.2 i d (intL_at hd)
      have HG := Lib.hid HD.out.1
      have hnext := powSum_next (k := k) hd
      have hb1 := HSUM.out i
      have hb2 := HSUM.out (i + 1)
      have hdk : d ^ k ≠ 0 := fun h => by have : 0 < d ^ k := Nat.pow_pos (by omega); omega
      have hdb : d ^ k < W32 ^ 70 := by omega
      have HN := Lib.hid hnext
      have HBD := Lib.hid (And.intro hb1 hdb)
      have HCELL := Lib.hid hcell
      clear hd hnext hb2 hb1 hdb hcell HSUM HM
      obtain ⟨⟨g1, n1, c1, p1, p2, p3⟩, p4, p5, p6⟩ := HS.out
      have P0 := Lib.hid (And.intro p1 (And.intro p2 p3))
      have P6 := Lib.hid p6
      have i1 : (0 : Int) ≤ (i : Int) := by omega
      have i2 : (i : Int) < (D.length : Int) := by omega
      clear p1 p2 p3 p4 p5 p6
      go_wp2_with fail
      refine wp_region_made 9 [17, 18, 19, 20, 21, 22, 23, 24, 25] (by kernel_rfl) (by kernel_rfl) (by kernel_rfl) (fun _ W => Below wr.heap.size wr W) (SigG (.agg #[.bool false, .slice (some ⟨g1, 0, none⟩) n1 c1]) (.slice (some ⟨g, 0, none⟩) D.length cap) g i d k (powSum k (D.take i) + d ^ k)) sigG_below (below_drewN (Below.refl _ _) 1) ?_ ?_
      · intro j vs W hj hB hdep
        have HB := Lib.hid hB
        have hc : j = 0 ∨ j = 1 ∨ j = 2 ∨ j = 3 ∨ j = 4 ∨ j = 5 ∨ j = 6 ∨ j = 7 ∨ j = 8 := by omega
        clear hj hB
        rcases hc with rfl | rfl | rfl | rfl | rfl | rfl | rfl | rfl | rfl
        · have q1 := (HB.out.cell (p := ⟨V, 0, none⟩) P6.out).trans P0.out.1
          have q2 := (HB.out.cell (p := ⟨V, 1, none⟩) P6.out).trans P0.out.2.1
          clear hdep
          dsimp only [putF]
          refine wpOp_step rfl (fun K hK => ?_)
          go_simp
          exact hK _ _ ⟨_, by kernel_rfl, Below.refl _ _, rfl, HB.out⟩
        · clear hdep
          dsimp only [putF]
          refine wpOp_step rfl (fun K hK => ?_)
          go_simp
          exact hK _ _ ⟨_, by kernel_rfl, Below.refl _ _, rfl, HB.out⟩
        · clear hdep
          dsimp only [putF]
          refine wpOp_step rfl (fun K hK => ?_)
          go_simp
          exact hK _ _ ⟨_, by kernel_rfl, Below.refl _ _, rfl, HB.out⟩
        · have h1 : vs 1 = _ := hdep 1 (by kernel_rfl)
          have h2 : vs 2 = _ := hdep 2 (by kernel_rfl)
          dsimp only [putF]
          rw [h1, h2]
          clear hdep h1 h2
          refine wpOp_step rfl (fun K hK => ?_)
          go_simp
          exact hK _ _ ⟨_, by kernel_rfl, Below.refl _ _, rfl, HB.out⟩
        · have h1 : vs 3 = _ := hdep 3 (by kernel_rfl)
          have q1 := (HB.out.cell (p := ⟨g, i, none⟩) HG.out).trans HCELL.out
          dsimp only [putF]
          rw [h1]
          clear hdep h1
          refine wpOp_step rfl (fun K hK => ?_)
          go_simp
          exact hK _ _ ⟨_, by kernel_rfl, Below.refl _ _, rfl, HB.out⟩
        · have h1 : vs 4 = _ := hdep 4 (by kernel_rfl)
          dsimp only [putF]
          rw [h1]
          clear hdep h1
          refine wpOp_step rfl (fun K hK => ?_)
          go_simp
          refine (rof_full d _ (by omega)).mono ?_
          rintro _ w4 ⟨g4, n4, c4, rfl, hr4, hb4⟩
          exact hK _ _ ⟨_, by kernel_rfl, hb4, ⟨_, _, _, rfl, hr4⟩, HB.out.trans (hb4.mono HB.out.size)⟩
        · clear hdep
          dsimp only [putF]
          refine wpOp_step rfl (fun K hK => ?_)
          go_simp
          exact hK _ _ ⟨_, by kernel_rfl, Below.refl _ _, rfl, HB.out⟩
        · obtain ⟨g4, n4, c4, h1, h4⟩ := hdep 5 (by kernel_rfl)
          have h2 : vs 6 = _ := hdep 6 (by kernel_rfl)
          dsimp only [putF]
          rw [h1, h2]
          clear hdep h1 h2
          refine wpOp_step rfl (fun K hK => ?_)
          go_simp
          refine (raised_nat _ d k _ h4 d0 d1 hk).mono ?_
          rintro _ w4 ⟨r, rfl, hr4, hb4⟩
          obtain ⟨g5, n5, c5, rfl⟩ := natAt_slice hr4 hdk
          exact hK _ _ ⟨_, by kernel_rfl, hb4, ⟨_, _, _, rfl, hr4⟩, HB.out.trans (hb4.mono HB.out.size)⟩
        · obtain ⟨g4, n4, c4, h1, h4⟩ := hdep 7 (by kernel_rfl)
          have h2 : vs 0 = _ := hdep 0 (by kernel_rfl)
          have h5 := P0.out.2.2.below HB.out (Nat.le_refl _)
          dsimp only [putF]
          rw [h1, h2]
          clear hdep h1 h2
          refine wpOp_step rfl (fun K hK => ?_)
          go_simp
          refine (radd_nat _ _ _ _ _ _ _ _ 70 _ h5 h4 HBD.out.1 HBD.out.2 (by omega)).mono ?_
          rintro _ w4 ⟨_, rfl, ⟨r, rfl, hr4⟩, hb4⟩
          rw [Int.natAbs_natCast] at hr4
          rw [bool_nat]
          exact hK _ _ ⟨_, by kernel_rfl, hb4, ⟨_, rfl, hr4⟩, HB.out.trans (hb4.mono HB.out.size)⟩
      · intro vs W hB hF
        obtain ⟨r, e8, hr8⟩ := hF 8 (by omega)
        have hV := varS_next HS.out hB
        have HR' := Lib.hid (resW_next HR.out hB)
        have HD' := Lib.hid (show g < W.heap.size ∧ ∀ (i : Nat) (x : Int), (intL D)[i]? = some x → W.cell? ⟨g, i, none⟩ = some (.int .i64 x) from ⟨by have := HD.out.1; have := hB.size; omega, fun j x h => (hB.cell (p := ⟨g, j, none⟩) HD.out.1).trans (HD.out.2 j x h)⟩)
        obtain ⟨g5, n5, c5, rfl⟩ := natAt_slice hr8 (by omega)
        have hV' := varS_set hV hr8
        rw [← HN.out] at hV'
        have HV' := Lib.hid hV'
        obtain ⟨⟨_, _, _, q1, q2, _⟩, q3, q4, q5⟩ := hV
        dsimp only [putF]
        rw [e8]
        simp only [List.drop]
        clear hB hF e8 hr8 hV' HS HR HD
        go_wp2_with fail
        go_roundw
        case rel => exact ⟨i + 1, by go_num, by omega, HV'.out, Lib.hid (resW_other HR'.out (by omega) _ _), sigD_set HD'.out q1 q2 (by rw [intL_len]; omega)⟩
        case measure => simp [intOf]; omega
    · have hi' : i = D.length := by omega
      subst hi'
      clear hin
      obtain ⟨⟨g1, n1, c1, p1, p2, p3⟩, p4, p5, p6⟩ := HS.out
      rw [List.take_length] at p3
      obtain ⟨⟨bb, uu, k0, k1⟩, k2, k3, k4, k5⟩ := HR.out
      have hn := natAt_set p3 k0 (.bool false) (.slice (some ⟨g1, 0, none⟩) n1 c1)
      have hrb := resW_set HR.out (.bool false) (.slice (some ⟨g1, 0, none⟩) n1 c1)
      clear p3 k4
      go_wp2_with fail
      refine bodyPost_ret (v := .agg #[.bool false, .slice (some ⟨g1, 0, none⟩) n1 c1]) (by simp [results, Tryd.results51, go_sem, k0, k1]) rfl ⟨_, rfl, hn, hrb⟩
theorem w32_step (k : Nat) (hk : 70 ≤ k) {x : Nat} (h : x < W32 ^ 70) : x < W32 ^ k := Nat.lt_of_lt_of_le h (w32_mono hk)
theorem w32_big {x : Nat} (h : x < W32 ^ 70) : x < W32 ^ 1000000 := w32_step 1000000 (by decide) h
theorem intV_nat {w : World} {v : Value} {x : Nat} (h : NatAt w v x) : IntV w (.agg #[.bool false, v]) (x : Int) := ⟨v, by rw [bool_nat], by rw [Int.natAbs_natCast]; exact h⟩
theorem powSum_small {k N : Nat} (hN0 : 1 ≤ N) (hN : N ≤ 2147483647) (hk : k ≤ 64) : powSum k (dvs N) < W32 ^ 70 := by
  have h1 := powSum_lt hk (dvs N) fun d hd => by
    have := Nat.le_of_dvd (by omega) ((dvs_mem (show 0 < N by omega)).1 hd)
    omega
  have h3 : (dvs N).length ≤ W32 := by
    unfold dvs
    exact Nat.le_trans (List.length_filter_le _ _) (by rw [w32_eq]; simp; omega)
  have h4 : (dvs N).length * W32 ^ 65 ≤ W32 * W32 ^ 65 := Nat.mul_le_mul_right _ h3
  have h5 : W32 * W32 ^ 65 < W32 ^ 70 := by
    rw [Nat.mul_comm, ← Nat.pow_succ]
    exact Nat.pow_lt_pow_right (by decide) (by omega)
  omega
end Go.Proofs.YtjmldlbiihaefaaDoor
