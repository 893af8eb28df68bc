/- Walks of bigint: Mul, add and Add for numbers that are not negative. -/
import Derived.Test.YtjmldlbiihaefaaDoorBigC
import Derived.Deep.RegionHeld3
namespace Go.Proofs.YtjmldlbiihaefaaDoor
open Go.RowKit HP

theorem tlen_len {x n : Nat} (h : Len x n) : tlen (dg x) n = n := by
  match n, h with
  | 0, _ => rfl
  | n + 1, h =>
    rw [tlen, if_neg]
    intro h0
    have h1 := valF_dg' h.1
    rw [valF, h0, Nat.zero_mul, Nat.add_zero, valF_dg] at h1
    have h2 : x % W32 ^ n < W32 ^ n := Nat.mod_lt _ (w32_pos n)
    rcases h.2 with h3 | h3
    · omega
    · have h4 : W32 ^ n ≤ x := h3
      omega
theorem vcut_self {w : World} {v : Value} {n : Nat} {F : Nat → Nat} (h : U32At w v n F) : vcut v n = v := by
  rcases h with ⟨rfl, _⟩ | ⟨g, cap, rfl, _⟩ <;> rfl
theorem trimmed_nat {v : Value} {x K : Nat} {w : World} (h : NatAt w v x) (hx : x < W32 ^ K) (hK : K ≤ 1000000) :
    Calls Tryd.prog 85 #[v] w fun e w' => e = .returned v ∧ w' = w := by
  obtain ⟨n, h1, h2⟩ := h
  have := h2.le hx
  refine (trimmed_any v n (dg x) w h1 (fun i _ => dg_lt x i) (by omega)).mono ?_
  rintro e w' ⟨he, hw⟩
  rw [tlen_len h2, vcut_self h1] at he
  exact ⟨he, hw.symm⟩
theorem times_nat {v u : Value} {x y K : Nat} {w : World} (h : NatAt w v x) (k : NatAt w u y) (hx : x < W32 ^ K) (hy : y < W32 ^ K) (hK : K ≤ 1000000) :
    Calls Tryd.prog 84 #[v, u] w fun e w' => ∃ r, e = .returned r ∧ SumAt w w' r (x * y) := by
  obtain ⟨n, h1, h2⟩ := h
  obtain ⟨m, k1, k2⟩ := k
  have := h2.le hx
  have := k2.le hy
  have c := times_any v u n m (dg x) (dg y) w h1 k1 (fun i _ => dg_lt x i) (fun i _ => dg_lt y i) (by omega) (by omega)
  rw [valF_dg' h2.1, valF_dg' k2.1] at c
  exact c
theorem plus_nat {v u : Value} {x y K : Nat} {w : World} (h : NatAt w v x) (k : NatAt w u y) (hx : x < W32 ^ K) (hy : y < W32 ^ K) (hK : K ≤ 1000000) :
    Calls Tryd.prog 110 #[v, u] w fun e w' => ∃ r, e = .returned r ∧ SumAt w w' r (x + y) := by
  obtain ⟨n, h1, h2⟩ := h
  obtain ⟨m, k1, k2⟩ := k
  have := h2.le hx
  have := k2.le hy
  have c := plus_any v u n m (dg x) (dg y) w h1 k1 (fun i _ => dg_lt x i) (fun i _ => dg_lt y i) (by omega) (by omega)
  rw [valF_dg' h2.1, valF_dg' k2.1] at c
  exact c
theorem signed_sum {neg : Bool} {v : Value} {s : Nat} {w0 w : World} (h : SumAt w0 w v s) :
    Calls Tryd.prog 83 #[.bool neg, v] w fun e w' => ∃ v', e = .returned (.agg #[.bool (neg && decide (s ≠ 0)), v']) ∧ NatAt w' v' s ∧ Below w.heap.size w w' := by
  obtain ⟨n, H, h1, h2, h3, h4, _⟩ := h
  have c := signed_any neg v n H w h1 h2 h4
  rw [h3] at c
  exact c
/-- the sign of a product -/
theorem mul_sign (x y : Int) : ((decide (x < 0) != decide (y < 0)) && decide (x.natAbs * y.natAbs ≠ 0)) = decide (x * y < 0) := by
  have e : x.natAbs * y.natAbs = (x * y).natAbs := (Int.natAbs_mul x y).symm
  rw [e]
  rcases Int.lt_trichotomy x 0 with hx | hx | hx <;> rcases Int.lt_trichotomy y 0 with hy | hy | hy
  · have := Int.mul_pos_of_neg_of_neg hx hy
    simp [hx, hy]; omega
  · subst hy; simp
  · have := Int.mul_neg_of_neg_of_pos hx hy
    simp [hx, this, show ¬ y < 0 by omega]; omega
  · subst hx; simp
  · subst hx; simp
  · subst hx; simp
  · have := Int.mul_neg_of_pos_of_neg hx hy
    simp [hy, this, show ¬ x < 0 by omega]; omega
  · subst hy; simp
  · have := Int.mul_pos hx hy
    simp [show ¬ x < 0 by omega, show ¬ y < 0 by omega]; omega

theorem natAt_nil {w : World} {s : Nat} (h : NatAt w (.slice none 0 0) s) : s = 0 := by
  obtain ⟨n, h1, h2⟩ := h
  rcases h1 with ⟨_, h0⟩ | ⟨g, cap, h3, _⟩
  · exact h2.zero_iff.1 h0
  · cases h3
theorem signed_pos {neg : Bool} {v : Value} {s : Nat} {w0 w : World} (h : SumAt w0 w v s) (hs : s ≠ 0) :
    Calls Tryd.prog 83 #[.bool neg, v] w fun e w' => ∃ g n cap, e = .returned (.agg #[.bool neg, .slice (some ⟨g, 0, none⟩) n cap]) ∧ NatAt w' (.slice (some ⟨g, 0, none⟩) n cap) s ∧ Below w.heap.size w w' := by
  refine (signed_sum h).mono ?_
  rintro e w' ⟨v', rfl, hv, hb⟩
  have hd : decide (s ≠ 0) = true := by rw [decide_eq_true_iff]; exact hs
  rw [hd, Bool.and_true]
  rcases natAt_shape hv with rfl | ⟨g, n, cap, rfl⟩
  · exact absurd (natAt_nil hv) hs
  · exact ⟨g, n, cap, rfl, hv, hb⟩
theorem signed_nil (neg : Bool) (w : World) :
    Calls Tryd.prog 83 #[.bool neg, .slice none 0 0] w fun e w' => e = .returned (.agg #[.bool false, .slice none 0 0]) ∧ Below w.heap.size w w' := by
  have c := signed_any neg (.slice none 0 0) 0 (fun _ => 0) w (.inl ⟨rfl, rfl⟩) (fun i hi => absurd hi (Nat.not_lt_zero _)) (by omega)
  have C0 := Lib.hid (fun (W : World) => trimmed_any (.slice none 0 0) 0 (fun _ => 0) W (.inl ⟨rfl, rfl⟩) (fun i hi => absurd hi (Nat.not_lt_zero _)) (by omega))
  clear c
  cases neg
  all_goals
    go_enter Tryd.func83, Tryd.ntmps83
    go_wp2_with fail
    refine (C0.out _).mono ?_
    rintro _ w1 ⟨rfl, rfl⟩
    rw [show vcut (.slice none 0 0) (tlen (fun _ => 0) 0) = .slice none 0 0 from rfl]
    go_wp2
    exact bodyPost_ret (v := .agg #[.bool false, .slice none 0 0]) (by simp [results, Tryd.results83, go_sem]) rfl ⟨rfl, below_res _ _⟩
theorem natAt_zero_nil {w : World} {v : Value} (h : NatAt w v 0) : v = .slice none 0 0 ∨ ∃ g cap, v = .slice (some ⟨g, 0, none⟩) 0 cap := by
  rcases natAt_nonzero h with ⟨_, h⟩ | ⟨h, _⟩
  · exact h
  · exact absurd rfl h
theorem times_nil {v u : Value} {x y : Nat} {w : World} (h : NatAt w v x) (k : NatAt w u y) (hxy : x * y = 0) :
    Calls Tryd.prog 84 #[v, u] w fun e w' => e = .returned (.slice none 0 0) ∧ w' = w := by
  have h1 : (v = .slice none 0 0 ∨ ∃ g cap, v = .slice (some ⟨g, 0, none⟩) 0 cap) ∨ ∃ g n cap, v = .slice (some ⟨g, 0, none⟩) (n + 1) cap ∧ (u = .slice none 0 0 ∨ ∃ g cap, u = .slice (some ⟨g, 0, none⟩) 0 cap) := by
    rcases natAt_nonzero h with ⟨_, h1⟩ | ⟨h1, g, n, cap, h2⟩
    · exact .inl h1
    · have hy : y = 0 := by
        rcases Nat.mul_eq_zero.1 hxy with h3 | h3
        · exact absurd h3 h1
        · exact h3
      rw [hy] at k
      exact .inr ⟨g, n, cap, h2, natAt_zero_nil k⟩
  exact times_zero2 v u w h1
/-- the result's variable at block c -/
def ResC (c : Nat) (W : World) : Prop := (∃ b u, W.cell? ⟨c, 0, none⟩ = some (.bool b) ∧ W.cell? ⟨c, 1, none⟩ = some u) ∧ W.frozen? ⟨c, 0, none⟩ = false ∧ W.frozen? ⟨c, 1, none⟩ = false ∧ c < W.heap.size
theorem resC_next {c : Nat} {W W' : World} (h : ResC c W) (hb : Below W.heap.size W W') : ResC c W' := by
  obtain ⟨⟨b, u, h1, h2⟩, h3, h4, h5⟩ := h
  exact ⟨⟨b, u, (hb.cell (p := ⟨c, 0, none⟩) h5).trans h1, (hb.cell (p := ⟨c, 1, none⟩) h5).trans h2⟩, (hb.frozen (p := ⟨c, 0, none⟩) h5).trans h3, (hb.frozen (p := ⟨c, 1, none⟩) h5).trans h4, by have := hb.size; omega⟩
theorem box_next {A B : Nat} {W W' : World} {p q r s : Value} (hb : Below W.heap.size W W') (hA : A < W.heap.size) (hB : B < W.heap.size) (h : W.cell? ⟨A, 0, none⟩ = some p ∧ W.cell? ⟨A, 1, none⟩ = some q ∧ W.cell? ⟨B, 0, none⟩ = some r ∧ W.cell? ⟨B, 1, none⟩ = some s) :
    W'.cell? ⟨A, 0, none⟩ = some p ∧ W'.cell? ⟨A, 1, none⟩ = some q ∧ W'.cell? ⟨B, 0, none⟩ = some r ∧ W'.cell? ⟨B, 1, none⟩ = some s :=
  ⟨(hb.cell (p := ⟨A, 0, none⟩) hA).trans h.1, (hb.cell (p := ⟨A, 1, none⟩) hA).trans h.2.1, (hb.cell (p := ⟨B, 0, none⟩) hB).trans h.2.2.1, (hb.cell (p := ⟨B, 1, none⟩) hB).trans h.2.2.2⟩
theorem cell_set2 {W : World} {A C o : Nat} {p u1 u2 : Value} (hA : A ≠ C) (h : W.cell? ⟨A, o, none⟩ = some p) : ((W.setCell ⟨C, 0, none⟩ u1).setCell ⟨C, 1, none⟩ u2).cell? ⟨A, o, none⟩ = some p := by
  have hC : C ≠ A := Ne.symm hA
  rw [World.cell?_setCell_other _ _ _ _ (fun e => hC (congrArg Addr.block e)), World.cell?_setCell_other _ _ _ _ (fun e => hC (congrArg Addr.block e))]
  exact h
theorem box_set {W : World} {A B C : Nat} {p q r s u1 u2 : Value} (hA : A ≠ C) (hB : B ≠ C) (h : W.cell? ⟨A, 0, none⟩ = some p ∧ W.cell? ⟨A, 1, none⟩ = some q ∧ W.cell? ⟨B, 0, none⟩ = some r ∧ W.cell? ⟨B, 1, none⟩ = some s) :
    ((W.setCell ⟨C, 0, none⟩ u1).setCell ⟨C, 1, none⟩ u2).cell? ⟨A, 0, none⟩ = some p ∧ ((W.setCell ⟨C, 0, none⟩ u1).setCell ⟨C, 1, none⟩ u2).cell? ⟨A, 1, none⟩ = some q ∧ ((W.setCell ⟨C, 0, none⟩ u1).setCell ⟨C, 1, none⟩ u2).cell? ⟨B, 0, none⟩ = some r ∧ ((W.setCell ⟨C, 0, none⟩ u1).setCell ⟨C, 1, none⟩ u2).cell? ⟨B, 1, none⟩ = some s :=
  ⟨cell_set2 hA h.1, cell_set2 hA h.2.1, cell_set2 hB h.2.2.1, cell_set2 hB h.2.2.2⟩
theorem sumAt_below {w w' : World} {v : Value} {s : Nat} (h : SumAt w w' v s) : Below w.heap.size w w' := by
  obtain ⟨n, H, _, _, _, _, hb⟩ := h
  exact hb

set_option maxHeartbeats 4000000 in
set_option maxRecDepth 100000 in
theorem mul_pos (v u : Value) (x y : Nat) (sx sy : Bool) (K : Nat) (w : World) (hv : NatAt w v x) (hu : NatAt w u y) (hx : x < W32 ^ K) (hy : y < W32 ^ K) (hK : K ≤ 1000000) (hs : x * y ≠ 0) :
    Calls Tryd.prog 55 #[.agg #[.bool sx, v], .agg #[.bool sy, u]] w fun e w' => ∃ r, e = .returned (.agg #[.bool (sx != sy), r]) ∧ NatAt w' r (x * y) ∧ Below w.heap.size w w' := by
  have hx0 : x ≠ 0 := fun h => hs (by rw [h, Nat.zero_mul])
  have hy0 : y ≠ 0 := fun h => hs (by rw [h, Nat.mul_zero])
  have hsv := natAt_shape hv
  have hsu := natAt_shape hu
  have CT1 := Lib.hid (fun W (hb : Below w.heap.size w W) => trimmed_nat (hv.below hb (Nat.le_refl _)) hx hK)
  have CT2 := Lib.hid (fun W (hb : Below w.heap.size w W) => trimmed_nat (hu.below hb (Nat.le_refl _)) hy hK)
  have CX := Lib.hid (fun W (hb : Below w.heap.size w W) => times_nat (hv.below hb (Nat.le_refl _)) (hu.below hb (Nat.le_refl _)) hx hy hK)
  have HS := Lib.hid hs
  have HN1 := Lib.hid (fun h => hx0 (natAt_nil (w := w) (s := x) h))
  have hbel : Below w.heap.size w (((w.alloc (.cells #[.bool sx, v] 69)).alloc (.cells #[.bool sy, u] 69)).alloc (.cells #[.bool false, .slice none 0 0] 69)).drew :=
    below_drewN ((((Below.refl _ _).alloc (Nat.le_refl _) _).alloc (by simp) _).alloc (by simp; omega) _) 1
  have HBEL := Lib.hid hbel
  have hres : ResC (w.heap.size + 2) (((w.alloc (.cells #[.bool sx, v] 69)).alloc (.cells #[.bool sy, u] 69)).alloc (.cells #[.bool false, .slice none 0 0] 69)).drew := by
    refine ⟨⟨false, .slice none 0 0, ?_, ?_⟩, ?_, ?_, by simp [World.drew]⟩
    · exact (World.cell?_alloc_at _ _ _ _ (by simp)).trans rfl
    · exact (World.cell?_alloc_at _ _ _ _ (by simp)).trans rfl
    · exact World.frozen?_alloc_at _ _ _ _ (by simp)
    · exact World.frozen?_alloc_at _ _ _ _ (by simp)
  have HRES := Lib.hid hres
  generalize hs' : x * y = s at *
  rcases hsv with rfl | ⟨g, n, cap, rfl⟩
  · exact absurd (natAt_nil hv) hx0
  rcases hsu with rfl | ⟨g', m, cap', rfl⟩
  · exact absurd (natAt_nil hu) hy0
  clear hx hy hv hu hbel hres hs hx0 hy0 hs' HN1
  go_enter Tryd.func55, Tryd.ntmps55
  go_wp2
  go_region_held3 (fun W => W.cell? ⟨w.heap.size, 0, none⟩ = some (.bool sx) ∧ W.cell? ⟨w.heap.size, 1, none⟩ = some (.slice (some ⟨g, 0, none⟩) n cap) ∧ W.cell? ⟨w.heap.size + 1, 0, none⟩ = some (.bool sy) ∧ W.cell? ⟨w.heap.size + 1, 1, none⟩ = some (.slice (some ⟨g', 0, none⟩) m cap')) (first | assumption | exact box_set (by omega) (by omega) (by assumption) | go_keep)
    (first
      | (go_at_call 85; (with_reducible first | refine (CT1.out _ HBEL.out).mono ?_ | refine (CT2.out _ HBEL.out).mono ?_); rintro _ w' ⟨rfl, rfl⟩)
      | (go_at_call 84; (with_reducible refine (CX.out _ HBEL.out).mono ?_); rintro _ w1 ⟨r, rfl, hsum⟩; have hbox := box_next (A := w.heap.size) (B := w.heap.size + 1) (sumAt_below hsum) (by simp [World.drew]; omega) (by simp [World.drew]) (by assumption); have hr1 := Lib.hid (resC_next HRES.out (sumAt_below hsum)); have hb1 := Lib.hid (HBEL.out.trans ((sumAt_below hsum).mono (by simp [World.drew]; omega))); have hsum' := Lib.hid hsum; clear hsum)
      | (go_at_call 83; have hsum2 := hsum'.out; (with_reducible refine (signed_pos hsum2 HS.out).mono ?_); rintro _ w2 ⟨g2, n2, cap2, rfl, hnat, hb2⟩; clear hsum2; have hbox := box_next (A := w.heap.size) (B := w.heap.size + 1) hb2 (by have := hr1.out.2.2.2; omega) (by have := hr1.out.2.2.2; omega) (by assumption); have hr2 := resC_next hr1.out hb2; obtain ⟨⟨rb, ru, k0, k1⟩, k2, k3, k4⟩ := hr2; have hb3 := Lib.hid (hb1.out.trans (hb2.mono hb1.out.size)); have hnat' := Lib.hid hnat; clear hnat hb2))
  go_wp2
  refine bodyPost_ret (v := .agg #[.bool (!(sx == sy)), .slice (some ⟨g2, 0, none⟩) n2 cap2]) (by simp [results, Tryd.results55, go_sem, k0, k1]) rfl ⟨_, rfl, natAt_set hnat'.out k0 _ _, ?_⟩
  exact (hb3.out.setCell (by simp; omega) _).setCell (by simp; omega) _
end Go.Proofs.YtjmldlbiihaefaaDoor
