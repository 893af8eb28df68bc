/- The reference's integers: Raised. -/
import Derived.Test.YtjmldlbiihaefaaDoorRbgD
import Derived.Test.YtjmldlbiihaefaaDoorBigG
namespace Go.Proofs.YtjmldlbiihaefaaDoor
open Go.RowKit HP

theorem natAt_slice {w : World} {v : Value} {x : Nat} (h : NatAt w v x) (h0 : x ≠ 0) : ∃ g n cap, v = .slice (some ⟨g, 0, none⟩) n cap := by
  rcases natAt_shape h with rfl | h
  · exact absurd (natAt_nil h) h0
  · exact h
theorem rmul_nat (v u : Value) (x y : Nat) (K : Nat) (w : World) (hv : NatAt w v x) (hu : NatAt w u y) (hx0 : x ≠ 0) (hy0 : y ≠ 0) (hx : x < W32 ^ K) (hy : y < W32 ^ K) (hK : K ≤ 1000000) :
    Calls Tryd.prog 98 #[.agg #[.bool false, v], .agg #[.bool false, u]] w fun e w' => ∃ g n cap, e = .returned (.agg #[.bool false, .slice (some ⟨g, 0, none⟩) n cap]) ∧ NatAt w' (.slice (some ⟨g, 0, none⟩) n cap) (x * y) ∧ Below w.heap.size w w' := by
  obtain ⟨g, n, cap, rfl⟩ := natAt_slice hv hx0
  obtain ⟨g', m, cap', rfl⟩ := natAt_slice hu hy0
  refine (rmul_ss g n cap g' m cap' x y K w hv hu hx hy hK).mono ?_
  rintro e w' ⟨r, rfl, hr, hb⟩
  obtain ⟨g2, n2, cap2, rfl⟩ := natAt_slice hr (Nat.mul_ne_zero hx0 hy0)
  exact ⟨g2, n2, cap2, rfl, hr, hb⟩
/-- a variable that holds a number -/
def VarN (wr : World) (A : Nat) (x : Nat) : Prop := (∃ u, wr.cell? ⟨A, 0, none⟩ = some (.bool false) ∧ wr.cell? ⟨A, 1, none⟩ = some u ∧ NatAt wr u x) ∧ wr.frozen? ⟨A, 0, none⟩ = false ∧ wr.frozen? ⟨A, 1, none⟩ = false ∧ A < wr.heap.size
theorem varN_next {wr w1 : World} {A x : Nat} (h : VarN wr A x) (hb : Below wr.heap.size wr w1) : VarN w1 A x := by
  obtain ⟨⟨u, h1, h2, h3⟩, h4, h5, h6⟩ := h
  exact ⟨⟨u, (hb.cell (p := ⟨A, 0, none⟩) h6).trans h1, (hb.cell (p := ⟨A, 1, none⟩) h6).trans h2, h3.below hb (Nat.le_refl _)⟩, (hb.frozen (p := ⟨A, 0, none⟩) h6).trans h4, (hb.frozen (p := ⟨A, 1, none⟩) h6).trans h5, by have := hb.size; omega⟩
theorem varN_set {w1 : World} {A x y : Nat} {r : Value} (h : VarN w1 A x) (hr : NatAt w1 r y) : VarN ((w1.setCell ⟨A, 0, none⟩ (.bool false)).setCell ⟨A, 1, none⟩ r) A y := by
  obtain ⟨⟨u, h1, h2, h3⟩, h4, h5, h6⟩ := h
  refine ⟨⟨r, ?_, World.cell?_setCell_same _ _ _ ((World.cell?_setCell_other _ _ _ _ (by simp)).trans h2), natAt_set hr h1 _ _⟩, by rw [World.frozen?_setCell, World.frozen?_setCell]; exact h4, by rw [World.frozen?_setCell, World.frozen?_setCell]; exact h5, by simpa [World.setCell] using h6⟩
  rw [World.cell?_setCell_other _ _ _ _ (by simp)]
  exact World.cell?_setCell_same _ _ _ h1
theorem varN_other {w1 : World} {A B x y : Nat} {r : Value} (h : VarN w1 A x) (hB : VarN w1 B y) (hne : A ≠ B) : VarN ((w1.setCell ⟨B, 0, none⟩ (.bool false)).setCell ⟨B, 1, none⟩ r) A x := by
  obtain ⟨⟨u, h1, h2, h3⟩, h4, h5, h6⟩ := h
  obtain ⟨⟨_, k1, _⟩, _⟩ := hB
  exact ⟨⟨u, cell_set2 hne h1, cell_set2 hne h2, natAt_set h3 k1 _ _⟩, by rw [World.frozen?_setCell, World.frozen?_setCell]; exact h4, by rw [World.frozen?_setCell, World.frozen?_setCell]; exact h5, by simpa [World.setCell] using h6⟩
theorem resC_other {w1 : World} {c B : Nat} {u1 u2 : Value} (h : ResC c w1) (hne : c ≠ B) : ResC c ((w1.setCell ⟨B, 0, none⟩ u1).setCell ⟨B, 1, none⟩ u2) := by
  obtain ⟨⟨rb, ru, r0, r1⟩, r2, r3, r4⟩ := h
  exact ⟨⟨rb, ru, cell_set2 hne r0, cell_set2 hne r1⟩, by rw [World.frozen?_setCell, World.frozen?_setCell]; exact r2, by rw [World.frozen?_setCell, World.frozen?_setCell]; exact r3, by simpa [World.setCell] using r4⟩
/-- what the rounds of Raised keep -/
def RaiS (w : World) (V o x : Nat) (wr : World) : Prop := VarN wr w.heap.size x ∧ VarN wr V o ∧ ResC (w.heap.size + 1) wr ∧ w.heap.size + 2 ≤ V ∧ Below w.heap.size w wr
theorem raiS_V {w wr w1 : World} {V o x y : Nat} {r : Value} (h : RaiS w V o x wr) (hb : Below wr.heap.size wr w1) (hr : NatAt w1 r y) : VarN w1 V o ∧ RaiS w V y x ((w1.setCell ⟨V, 0, none⟩ (.bool false)).setCell ⟨V, 1, none⟩ r) := by
  obtain ⟨h1, h2, h3, h4, h5⟩ := h
  have k1 := varN_next h1 hb
  have k2 := varN_next h2 hb
  exact ⟨k2, varN_other k1 k2 (by omega), varN_set k2 hr, resC_other (resC_next h3 hb) (by omega), h4, ((h5.trans (hb.mono h5.size)).setCell (by show w.heap.size ≤ V; omega) _).setCell (by show w.heap.size ≤ V; omega) _⟩
theorem raiS_A {w wr w1 : World} {V o x y : Nat} {r : Value} (h : RaiS w V o x wr) (hb : Below wr.heap.size wr w1) (hr : NatAt w1 r y) : VarN w1 w.heap.size x ∧ RaiS w V o y ((w1.setCell ⟨w.heap.size, 0, none⟩ (.bool false)).setCell ⟨w.heap.size, 1, none⟩ r) := by
  obtain ⟨h1, h2, h3, h4, h5⟩ := h
  have k1 := varN_next h1 hb
  have k2 := varN_next h2 hb
  exact ⟨k1, varN_set k1 hr, varN_other k2 k1 (by omega), resC_other (resC_next h3 hb) (by omega), h4, ((h5.trans (hb.mono h5.size)).setCell (by exact Nat.le_refl _) _).setCell (by exact Nat.le_refl _) _⟩

theorem varN_made (w : World) (t : TypeId) {v : Value} {x : Nat} (hv : NatAt w v x) : VarN (w.alloc (.cells #[.bool false, v] t)) w.heap.size x := by
  refine ⟨⟨v, ?_, ?_, hv.below (below_res w _) (Nat.le_refl _)⟩, World.frozen?_alloc_at _ _ _ _ rfl, World.frozen?_alloc_at _ _ _ _ rfl, by simp⟩
  · rw [World.cell?_alloc_at _ _ _ _ rfl]; rfl
  · rw [World.cell?_alloc_at _ _ _ _ rfl]; rfl
theorem raise_bounds {o x n X B : Nat} (h : o * x ^ n = X) (ho : o ≠ 0) (hx : x ≠ 0) (hX : X < B) : o < B ∧ (1 ≤ n → x < B ∧ o * x < B) ∧ (2 ≤ n → x * x < B) := by
  have hxn : 1 ≤ x ^ n := Nat.pow_pos (by omega)
  have h1 : o * 1 ≤ o * x ^ n := Nat.mul_le_mul_left _ hxn
  have h2 : 1 * x ^ n ≤ o * x ^ n := Nat.mul_le_mul_right _ (by omega)
  refine ⟨by omega, fun hn => ?_, fun hn => ?_⟩
  · have h3 : x ^ 1 ≤ x ^ n := Nat.pow_le_pow_right (by omega) hn
    rw [Nat.pow_one] at h3
    have h4 : o * x ≤ o * x ^ n := Nat.mul_le_mul_left _ h3
    exact ⟨by omega, by omega⟩
  · have h3 : x ^ 2 ≤ x ^ n := Nat.pow_le_pow_right (by omega) hn
    rw [Nat.pow_two] at h3
    omega

set_option maxHeartbeats 4000000 in
set_option maxRecDepth 100000 in
theorem raised_nat (v : Value) (d N : Nat) (w : World) (hv : NatAt w v d) (h0 : d ≠ 0) (h1 : d < 4294967296) (hN : N ≤ 64) :
    Calls Tryd.prog 82 #[.agg #[.bool false, v], .int .i64 N] w fun e w' => ∃ r, e = .returned (.agg #[.bool false, r]) ∧ NatAt w' r (d ^ N) ∧ Below w.heap.size w w' := by
  have hXb := pow_bound (e := N) h1 hN
  have hX0 : d ^ N ≠ 0 := fun h => by have : 0 < d ^ N := Nat.pow_pos (by omega); omega
  obtain ⟨g, n, cap, rfl⟩ := natAt_slice hv h0
  have COF := Lib.hid (fun W => rof_nat 1 W (by omega))
  have hva := varN_made w 69 hv
  have hba := below_res w (.cells #[.bool false, .slice (some ⟨g, 0, none⟩) n cap] 69)
  have hba2 := below_res (w.alloc (.cells #[.bool false, .slice (some ⟨g, 0, none⟩) n cap] 69)) (.cells #[.bool false, .slice none 0 0] 69)
  have HVA := Lib.hid (varN_next hva hba2)
  have HRES := Lib.hid (resC_start w (.cells #[.bool false, .slice (some ⟨g, 0, none⟩) n cap] 69) 69 _ rfl)
  have HBEL := Lib.hid (hba.trans (hba2.mono hba.size))
  generalize hXX : d ^ N = X at *
  have hst : 1 * d ^ N = X := by rw [Nat.one_mul]; exact hXX
  have HST := Lib.hid hst
  clear hv hva hba hba2 hst hXX
  go_enter Tryd.func82, Tryd.ntmps82
  go_wp2_with fail
  refine (COF.out _).mono ?_
  rintro _ w2 ⟨r, rfl, hr, hb2⟩
  obtain ⟨g1, n1, c1, rfl⟩ := natAt_slice hr (by omega)
  have hV := varN_made w2 69 hr
  have hba3 := below_res w2 (.cells #[.bool false, .slice (some ⟨g1, 0, none⟩) n1 c1] 69)
  have hR2 := resC_next HRES.out hb2
  have HS0 : Hid (RaiS w w2.heap.size 1 d _) := Lib.hid ⟨varN_next (varN_next HVA.out hb2) hba3, hV, resC_next hR2 hba3, by have := hR2.2.2.2; omega, (HBEL.out.trans (hb2.mono HBEL.out.size)).trans (hba3.mono (by have := HBEL.out.size; have := hb2.size; omega))⟩
  clear hr hb2 hV hba3 hR2 HVA HRES HBEL
  go_wp2_with fail
  generalize w2.heap.size = V at *
  go_loopw [1] (fun y wr => ∃ (n o x : Nat), y = .int .i64 n ∧ n ≤ 64 ∧ o ≠ 0 ∧ x ≠ 0 ∧ Hid (o * x ^ n = X) ∧ Hid (RaiS w V o x wr)) (fun y _ => (intOf y).toNat)
  case atStart => exact ⟨N, 1, d, rfl, hN, by omega, h0, HST.out, HS0⟩
  case round =>
    obtain ⟨n, o, x, rfl, hn, ho, hx, HX, HS⟩ := hrel
    have hbd := raise_bounds HX.out ho hx hXb
    obtain ⟨⟨⟨ua, a1, a2, a3⟩, _, _, _⟩, ⟨⟨uv, v1, v2, v3⟩, _, _, _⟩, _, hV2, _⟩ := HS.out
    by_cases hn0 : n = 0
    · subst hn0
      have e := HX.out
      rw [Nat.pow_zero, Nat.mul_one] at e
      subst e
      obtain ⟨⟨rb, ru, r0, r1⟩, r2, r3, r4⟩ := HS.out.2.2.1
      have hVc : V ≠ w.heap.size + 1 := by omega
      have HB := Lib.hid HS.out.2.2.2.2
      have HV3 := Lib.hid v3
      obtain ⟨g3, n3, cap3, rfl⟩ := natAt_slice v3 ho
      clear a3 v3 HS HX hbd
      go_wp2
      refine bodyPost_ret (v := .agg #[.bool false, .slice (some ⟨g3, 0, none⟩) n3 cap3]) (by simp [results, Tryd.results82, go_sem, r0, r1]) rfl ⟨_, rfl, natAt_set HV3.out r0 _ _, ?_⟩
      exact (HB.out.setCell (by simp) _).setCell (by simp) _
    · have hn1 : 1 ≤ n := by omega
      obtain ⟨bo, bn, b2⟩ := hbd
      obtain ⟨bx, box⟩ := bn hn1
      have t0 : decide ((0 : Int) < (n : Int)) = true := by rw [decide_eq_true_iff]; omega
      by_cases hodd : n % 2 = 1
      · have t1 : ((n : Int) % 2 == 1) = true := by rw [beq_iff_eq]; omega
        have c1 := rmul_nat uv ua o x 65 wr v3 a3 ho hx bo bx (by omega)
        have C1 := Lib.hid c1
        obtain ⟨ga, na, ca, rfl⟩ := natAt_slice a3 hx
        obtain ⟨gv, nv, cv, rfl⟩ := natAt_slice v3 ho
        have hxn : o * x ^ n = o * x * (x * x) ^ (n / 2) := by
          have : n = n / 2 + n / 2 + 1 := by omega
          conv => lhs; rw [this]
          rw [Nat.pow_succ, Nat.pow_add, Nat.mul_pow]; grind
        rw [HX.out] at hxn
        have HXN := Lib.hid hxn.symm
        have hox : o * x ≠ 0 := Nat.mul_ne_zero ho hx
        have HA3 := Lib.hid a3
        clear hxn c1 a3 v3
        go_wp2_with fail
        refine C1.out.mono ?_
        rintro _ w3 ⟨g3, n3, c3, rfl, hr, hb3⟩
        obtain ⟨hvn, hrs⟩ := raiS_V HS.out hb3 hr
        obtain ⟨⟨u3, m0, m1, m2⟩, m3, m4, m5⟩ := hvn
        have HRS := Lib.hid hrs
        have hA : w.heap.size < wr.heap.size := by have := HS.out.1.2.2.2; omega
        have hVA : w.heap.size ≠ V := by omega
        have A0 := cell_set2 (u1 := .bool false) (u2 := .slice (some ⟨g3, 0, none⟩) n3 c3) hVA ((hb3.cell (p := ⟨w.heap.size, 0, none⟩) hA).trans a1)
        have A1 := cell_set2 (u1 := .bool false) (u2 := .slice (some ⟨g3, 0, none⟩) n3 c3) hVA ((hb3.cell (p := ⟨w.heap.size, 1, none⟩) hA).trans a2)
        have hna := natAt_set (HA3.out.below hb3 (Nat.le_refl _)) m0 (.bool false) (.slice (some ⟨g3, 0, none⟩) n3 c3)
        by_cases hh : n / 2 = 0
        · have t2 : decide ((0 : Int) < (n : Int) / 2) = false := by rw [decide_eq_false_iff_not]; omega
          have e2 := HXN.out
          rw [hh, Nat.pow_zero, Nat.mul_one] at e2
          have E2 := Lib.hid e2
          have e3 : (n : Int) / 2 = 0 := by omega
          clear hrs hb3 hr m2 a1 a2 v1 v2 hna e2
          go_wp2
          go_roundw
          case rel => exact ⟨0, o * x, x, by first | rfl | (rw [e3]; rfl), by omega, hox, hx, by rw [Hid, Nat.pow_zero, Nat.mul_one]; exact E2.out, HRS.out⟩
          case measure => simp [intOf]; omega
        · have t2 : decide ((0 : Int) < (n : Int) / 2) = true := by rw [decide_eq_true_iff]; omega
          have hxx := b2 (by omega)
          have c2 := rmul_nat _ _ x x 65 _ hna hna hx hx bx bx (by omega)
          have C2 := Lib.hid c2
          have hxx0 : x * x ≠ 0 := Nat.mul_ne_zero hx hx
          clear hrs hb3 hr m2 a1 a2 v1 v2 hna c2
          go_wp2_with fail
          refine C2.out.mono ?_
          rintro _ w4 ⟨g4, n4, c4, rfl, hr4, hb4⟩
          obtain ⟨hvn4, hrs4⟩ := raiS_A HRS.out hb4 hr4
          obtain ⟨⟨u4, q0, q1, q2⟩, q3, q4, q5⟩ := hvn4
          have HRS4 := Lib.hid hrs4
          clear hrs4 hb4 hr4 q2 A0 A1
          go_wp2
          go_roundw
          case rel => exact ⟨n / 2, o * x, x * x, by simp, by omega, hox, hxx0, HXN.out, HRS4.out⟩
          case measure => simp [intOf]; omega
      · have t1 : ((n : Int) % 2 == 1) = false := by rw [beq_eq_false_iff_ne]; omega
        have hA : w.heap.size < wr.heap.size := HS.out.1.2.2.2
        obtain ⟨ga, na, ca, rfl⟩ := natAt_slice a3 hx
        have hxn : o * x ^ n = o * (x * x) ^ (n / 2) := by
          have : n = n / 2 + n / 2 := by omega
          conv => lhs; rw [this]
          rw [Nat.pow_add, Nat.mul_pow]
        rw [HX.out] at hxn
        have HXN := Lib.hid hxn.symm
        have t2 : decide ((0 : Int) < (n : Int) / 2) = true := by rw [decide_eq_true_iff]; omega
        have hxx := b2 (by omega)
        have c2 := rmul_nat _ _ x x 65 wr a3 a3 hx hx bx bx (by omega)
        have C2 := Lib.hid c2
        have hxx0 : x * x ≠ 0 := Nat.mul_ne_zero hx hx
        clear hxn a3 v3 v1 v2 c2
        go_wp2_with fail
        refine C2.out.mono ?_
        rintro _ w4 ⟨g4, n4, c4, rfl, hr4, hb4⟩
        obtain ⟨hvn4, hrs4⟩ := raiS_A HS.out hb4 hr4
        obtain ⟨⟨u4, q0, q1, q2⟩, q3, q4, q5⟩ := hvn4
        have HRS4 := Lib.hid hrs4
        clear hrs4 hb4 hr4 q2 a1 a2
        go_wp2
        go_roundw
        case rel => exact ⟨n / 2, o, x * x, by simp, by omega, ho, hxx0, HXN.out, HRS4.out⟩
        case measure => simp [intOf]; omega
end Go.Proofs.YtjmldlbiihaefaaDoor
