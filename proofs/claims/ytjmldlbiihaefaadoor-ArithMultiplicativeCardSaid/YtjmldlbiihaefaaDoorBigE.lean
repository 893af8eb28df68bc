/- Walks of bigint: Mul at zero, Mul. -/
import Derived.Test.YtjmldlbiihaefaaDoorBigD
namespace Go.Proofs.YtjmldlbiihaefaaDoor
open Go.RowKit HP

set_option maxHeartbeats 4000000 in
set_option maxRecDepth 100000 in
theorem mulz_nn (x y : Nat) (sx sy : Bool) (K : Nat) (w : World) (hv : NatAt w (.slice none 0 0) x) (hu : NatAt w (.slice none 0 0) y) (hx : x < W32 ^ K) (hy : y < W32 ^ K) (hK : K ≤ 1000000) (hs : x * y = 0) :
    Calls Tryd.prog 55 #[.agg #[.bool sx, .slice none 0 0], .agg #[.bool sy, .slice none 0 0]] w fun e w' => e = .returned (.agg #[.bool false, .slice none 0 0]) ∧ Below w.heap.size w w' := by
  have CT1 := Lib.hid (fun W (hb : Below w.heap.size w W) => trimmed_nat (hv.below hb (Nat.le_refl _)) hx hK)
  have CT2 := Lib.hid (fun W (hb : Below w.heap.size w W) => trimmed_nat (hu.below hb (Nat.le_refl _)) hy hK)
  have CX := Lib.hid (fun W (hb : Below w.heap.size w W) => times_nil (hv.below hb (Nat.le_refl _)) (hu.below hb (Nat.le_refl _)) hs)
  have hbel : Below w.heap.size w (((w.alloc (.cells #[.bool sx, .slice none 0 0] 69)).alloc (.cells #[.bool sy, .slice none 0 0] 69)).alloc (.cells #[.bool false, .slice none 0 0] 69)).drew :=
    below_drewN ((((Below.refl _ _).alloc (Nat.le_refl _) _).alloc (by simp) _).alloc (by simp; omega) _) 1
  have HBEL := Lib.hid hbel
  have hres : ResC (w.heap.size + 2) (((w.alloc (.cells #[.bool sx, .slice none 0 0] 69)).alloc (.cells #[.bool sy, .slice none 0 0] 69)).alloc (.cells #[.bool false, .slice none 0 0] 69)).drew := by
    refine ⟨⟨false, .slice none 0 0, ?_, ?_⟩, ?_, ?_, by simp [World.drew]⟩
    · exact (World.cell?_alloc_at _ _ _ _ (by simp)).trans rfl
    · exact (World.cell?_alloc_at _ _ _ _ (by simp)).trans rfl
    · exact World.frozen?_alloc_at _ _ _ _ (by simp)
    · exact World.frozen?_alloc_at _ _ _ _ (by simp)
  have HRES := Lib.hid hres
  clear hx hy hv hu hbel hres hs
  go_enter Tryd.func55, Tryd.ntmps55
  go_wp2
  go_region_held3 (fun W => W.cell? ⟨w.heap.size, 0, none⟩ = some (.bool sx) ∧ W.cell? ⟨w.heap.size, 1, none⟩ = some (.slice none 0 0) ∧ W.cell? ⟨w.heap.size + 1, 0, none⟩ = some (.bool sy) ∧ W.cell? ⟨w.heap.size + 1, 1, none⟩ = some (.slice none 0 0)) (first | assumption | exact box_set (by omega) (by omega) (by assumption) | go_keep)
    (first
      | (go_at_call 85; (with_reducible first | refine (CT1.out _ HBEL.out).mono ?_ | refine (CT2.out _ HBEL.out).mono ?_); rintro _ w' ⟨rfl, rfl⟩)
      | (go_at_call 84; (with_reducible refine (CX.out _ HBEL.out).mono ?_); rintro _ w1 ⟨rfl, rfl⟩)
      | (go_at_call 83; (with_reducible refine (signed_nil _ _).mono ?_); rintro _ w2 ⟨rfl, hb2⟩; have hbox := box_next (A := w.heap.size) (B := w.heap.size + 1) hb2 (by simp [World.drew]; omega) (by simp [World.drew]) (by assumption); have hr2 := resC_next HRES.out hb2; obtain ⟨⟨rb, ru, k0, k1⟩, k2, k3, k4⟩ := hr2; have hb3 := Lib.hid (HBEL.out.trans (hb2.mono HBEL.out.size)); clear hb2))
  go_wp2
  refine bodyPost_ret (v := .agg #[.bool false, .slice none 0 0]) (by simp [results, Tryd.results55, go_sem, k0, k1]) rfl ⟨rfl, ?_⟩
  exact (hb3.out.setCell (by simp; omega) _).setCell (by simp; omega) _
set_option maxHeartbeats 4000000 in
set_option maxRecDepth 100000 in
theorem mulz_ns (x y : Nat) (sx sy : Bool) (K : Nat) (w : World) (g' m cap' : Nat) (hv : NatAt w (.slice none 0 0) x) (hu : NatAt w (.slice (some ⟨g', 0, none⟩) m cap') y) (hx : x < W32 ^ K) (hy : y < W32 ^ K) (hK : K ≤ 1000000) (hs : x * y = 0) :
    Calls Tryd.prog 55 #[.agg #[.bool sx, .slice none 0 0], .agg #[.bool sy, .slice (some ⟨g', 0, none⟩) m cap']] w fun e w' => e = .returned (.agg #[.bool false, .slice none 0 0]) ∧ Below w.heap.size w w' := by
  have CT1 := Lib.hid (fun W (hb : Below w.heap.size w W) => trimmed_nat (hv.below hb (Nat.le_refl _)) hx hK)
  have CT2 := Lib.hid (fun W (hb : Below w.heap.size w W) => trimmed_nat (hu.below hb (Nat.le_refl _)) hy hK)
  have CX := Lib.hid (fun W (hb : Below w.heap.size w W) => times_nil (hv.below hb (Nat.le_refl _)) (hu.below hb (Nat.le_refl _)) hs)
  have hbel : Below w.heap.size w (((w.alloc (.cells #[.bool sx, .slice none 0 0] 69)).alloc (.cells #[.bool sy, .slice (some ⟨g', 0, none⟩) m cap'] 69)).alloc (.cells #[.bool false, .slice none 0 0] 69)).drew :=
    below_drewN ((((Below.refl _ _).alloc (Nat.le_refl _) _).alloc (by simp) _).alloc (by simp; omega) _) 1
  have HBEL := Lib.hid hbel
  have hres : ResC (w.heap.size + 2) (((w.alloc (.cells #[.bool sx, .slice none 0 0] 69)).alloc (.cells #[.bool sy, .slice (some ⟨g', 0, none⟩) m cap'] 69)).alloc (.cells #[.bool false, .slice none 0 0] 69)).drew := by
    refine ⟨⟨false, .slice none 0 0, ?_, ?_⟩, ?_, ?_, by simp [World.drew]⟩
    · exact (World.cell?_alloc_at _ _ _ _ (by simp)).trans rfl
    · exact (World.cell?_alloc_at _ _ _ _ (by simp)).trans rfl
    · exact World.frozen?_alloc_at _ _ _ _ (by simp)
    · exact World.frozen?_alloc_at _ _ _ _ (by simp)
  have HRES := Lib.hid hres
  clear hx hy hv hu hbel hres hs
  go_enter Tryd.func55, Tryd.ntmps55
  go_wp2
  go_region_held3 (fun W => W.cell? ⟨w.heap.size, 0, none⟩ = some (.bool sx) ∧ W.cell? ⟨w.heap.size, 1, none⟩ = some (.slice none 0 0) ∧ W.cell? ⟨w.heap.size + 1, 0, none⟩ = some (.bool sy) ∧ W.cell? ⟨w.heap.size + 1, 1, none⟩ = some (.slice (some ⟨g', 0, none⟩) m cap')) (first | assumption | exact box_set (by omega) (by omega) (by assumption) | go_keep)
    (first
      | (go_at_call 85; (with_reducible first | refine (CT1.out _ HBEL.out).mono ?_ | refine (CT2.out _ HBEL.out).mono ?_); rintro _ w' ⟨rfl, rfl⟩)
      | (go_at_call 84; (with_reducible refine (CX.out _ HBEL.out).mono ?_); rintro _ w1 ⟨rfl, rfl⟩)
      | (go_at_call 83; (with_reducible refine (signed_nil _ _).mono ?_); rintro _ w2 ⟨rfl, hb2⟩; have hbox := box_next (A := w.heap.size) (B := w.heap.size + 1) hb2 (by simp [World.drew]; omega) (by simp [World.drew]) (by assumption); have hr2 := resC_next HRES.out hb2; obtain ⟨⟨rb, ru, k0, k1⟩, k2, k3, k4⟩ := hr2; have hb3 := Lib.hid (HBEL.out.trans (hb2.mono HBEL.out.size)); clear hb2))
  go_wp2
  refine bodyPost_ret (v := .agg #[.bool false, .slice none 0 0]) (by simp [results, Tryd.results55, go_sem, k0, k1]) rfl ⟨rfl, ?_⟩
  exact (hb3.out.setCell (by simp; omega) _).setCell (by simp; omega) _
set_option maxHeartbeats 4000000 in
set_option maxRecDepth 100000 in
theorem mulz_sn (x y : Nat) (sx sy : Bool) (K : Nat) (w : World) (g n cap : Nat) (hv : NatAt w (.slice (some ⟨g, 0, none⟩) n cap) x) (hu : NatAt w (.slice none 0 0) y) (hx : x < W32 ^ K) (hy : y < W32 ^ K) (hK : K ≤ 1000000) (hs : x * y = 0) :
    Calls Tryd.prog 55 #[.agg #[.bool sx, .slice (some ⟨g, 0, none⟩) n cap], .agg #[.bool sy, .slice none 0 0]] w fun e w' => e = .returned (.agg #[.bool false, .slice none 0 0]) ∧ Below w.heap.size w w' := by
  have CT1 := Lib.hid (fun W (hb : Below w.heap.size w W) => trimmed_nat (hv.below hb (Nat.le_refl _)) hx hK)
  have CT2 := Lib.hid (fun W (hb : Below w.heap.size w W) => trimmed_nat (hu.below hb (Nat.le_refl _)) hy hK)
  have CX := Lib.hid (fun W (hb : Below w.heap.size w W) => times_nil (hv.below hb (Nat.le_refl _)) (hu.below hb (Nat.le_refl _)) hs)
  have hbel : Below w.heap.size w (((w.alloc (.cells #[.bool sx, .slice (some ⟨g, 0, none⟩) n cap] 69)).alloc (.cells #[.bool sy, .slice none 0 0] 69)).alloc (.cells #[.bool false, .slice none 0 0] 69)).drew :=
    below_drewN ((((Below.refl _ _).alloc (Nat.le_refl _) _).alloc (by simp) _).alloc (by simp; omega) _) 1
  have HBEL := Lib.hid hbel
  have hres : ResC (w.heap.size + 2) (((w.alloc (.cells #[.bool sx, .slice (some ⟨g, 0, none⟩) n cap] 69)).alloc (.cells #[.bool sy, .slice none 0 0] 69)).alloc (.cells #[.bool false, .slice none 0 0] 69)).drew := by
    refine ⟨⟨false, .slice none 0 0, ?_, ?_⟩, ?_, ?_, by simp [World.drew]⟩
    · exact (World.cell?_alloc_at _ _ _ _ (by simp)).trans rfl
    · exact (World.cell?_alloc_at _ _ _ _ (by simp)).trans rfl
    · exact World.frozen?_alloc_at _ _ _ _ (by simp)
    · exact World.frozen?_alloc_at _ _ _ _ (by simp)
  have HRES := Lib.hid hres
  clear hx hy hv hu hbel hres hs
  go_enter Tryd.func55, Tryd.ntmps55
  go_wp2
  go_region_held3 (fun W => W.cell? ⟨w.heap.size, 0, none⟩ = some (.bool sx) ∧ W.cell? ⟨w.heap.size, 1, none⟩ = some (.slice (some ⟨g, 0, none⟩) n cap) ∧ W.cell? ⟨w.heap.size + 1, 0, none⟩ = some (.bool sy) ∧ W.cell? ⟨w.heap.size + 1, 1, none⟩ = some (.slice none 0 0)) (first | assumption | exact box_set (by omega) (by omega) (by assumption) | go_keep)
    (first
      | (go_at_call 85; (with_reducible first | refine (CT1.out _ HBEL.out).mono ?_ | refine (CT2.out _ HBEL.out).mono ?_); rintro _ w' ⟨rfl, rfl⟩)
      | (go_at_call 84; (with_reducible refine (CX.out _ HBEL.out).mono ?_); rintro _ w1 ⟨rfl, rfl⟩)
      | (go_at_call 83; (with_reducible refine (signed_nil _ _).mono ?_); rintro _ w2 ⟨rfl, hb2⟩; have hbox := box_next (A := w.heap.size) (B := w.heap.size + 1) hb2 (by simp [World.drew]; omega) (by simp [World.drew]) (by assumption); have hr2 := resC_next HRES.out hb2; obtain ⟨⟨rb, ru, k0, k1⟩, k2, k3, k4⟩ := hr2; have hb3 := Lib.hid (HBEL.out.trans (hb2.mono HBEL.out.size)); clear hb2))
  go_wp2
  refine bodyPost_ret (v := .agg #[.bool false, .slice none 0 0]) (by simp [results, Tryd.results55, go_sem, k0, k1]) rfl ⟨rfl, ?_⟩
  exact (hb3.out.setCell (by simp; omega) _).setCell (by simp; omega) _
set_option maxHeartbeats 4000000 in
set_option maxRecDepth 100000 in
theorem mulz_ss (x y : Nat) (sx sy : Bool) (K : Nat) (w : World) (g n cap : Nat) (g' m cap' : Nat) (hv : NatAt w (.slice (some ⟨g, 0, none⟩) n cap) x) (hu : NatAt w (.slice (some ⟨g', 0, none⟩) m cap') y) (hx : x < W32 ^ K) (hy : y < W32 ^ K) (hK : K ≤ 1000000) (hs : x * y = 0) :
    Calls Tryd.prog 55 #[.agg #[.bool sx, .slice (some ⟨g, 0, none⟩) n cap], .agg #[.bool sy, .slice (some ⟨g', 0, none⟩) m cap']] w fun e w' => e = .returned (.agg #[.bool false, .slice none 0 0]) ∧ Below w.heap.size w w' := by
  have CT1 := Lib.hid (fun W (hb : Below w.heap.size w W) => trimmed_nat (hv.below hb (Nat.le_refl _)) hx hK)
  have CT2 := Lib.hid (fun W (hb : Below w.heap.size w W) => trimmed_nat (hu.below hb (Nat.le_refl _)) hy hK)
  have CX := Lib.hid (fun W (hb : Below w.heap.size w W) => times_nil (hv.below hb (Nat.le_refl _)) (hu.below hb (Nat.le_refl _)) hs)
  have hbel : Below w.heap.size w (((w.alloc (.cells #[.bool sx, .slice (some ⟨g, 0, none⟩) n cap] 69)).alloc (.cells #[.bool sy, .slice (some ⟨g', 0, none⟩) m cap'] 69)).alloc (.cells #[.bool false, .slice none 0 0] 69)).drew :=
    below_drewN ((((Below.refl _ _).alloc (Nat.le_refl _) _).alloc (by simp) _).alloc (by simp; omega) _) 1
  have HBEL := Lib.hid hbel
  have hres : ResC (w.heap.size + 2) (((w.alloc (.cells #[.bool sx, .slice (some ⟨g, 0, none⟩) n cap] 69)).alloc (.cells #[.bool sy, .slice (some ⟨g', 0, none⟩) m cap'] 69)).alloc (.cells #[.bool false, .slice none 0 0] 69)).drew := by
    refine ⟨⟨false, .slice none 0 0, ?_, ?_⟩, ?_, ?_, by simp [World.drew]⟩
    · exact (World.cell?_alloc_at _ _ _ _ (by simp)).trans rfl
    · exact (World.cell?_alloc_at _ _ _ _ (by simp)).trans rfl
    · exact World.frozen?_alloc_at _ _ _ _ (by simp)
    · exact World.frozen?_alloc_at _ _ _ _ (by simp)
  have HRES := Lib.hid hres
  clear hx hy hv hu hbel hres hs
  go_enter Tryd.func55, Tryd.ntmps55
  go_wp2
  go_region_held3 (fun W => W.cell? ⟨w.heap.size, 0, none⟩ = some (.bool sx) ∧ W.cell? ⟨w.heap.size, 1, none⟩ = some (.slice (some ⟨g, 0, none⟩) n cap) ∧ W.cell? ⟨w.heap.size + 1, 0, none⟩ = some (.bool sy) ∧ W.cell? ⟨w.heap.size + 1, 1, none⟩ = some (.slice (some ⟨g', 0, none⟩) m cap')) (first | assumption | exact box_set (by omega) (by omega) (by assumption) | go_keep)
    (first
      | (go_at_call 85; (with_reducible first | refine (CT1.out _ HBEL.out).mono ?_ | refine (CT2.out _ HBEL.out).mono ?_); rintro _ w' ⟨rfl, rfl⟩)
      | (go_at_call 84; (with_reducible refine (CX.out _ HBEL.out).mono ?_); rintro _ w1 ⟨rfl, rfl⟩)
      | (go_at_call 83; (with_reducible refine (signed_nil _ _).mono ?_); rintro _ w2 ⟨rfl, hb2⟩; have hbox := box_next (A := w.heap.size) (B := w.heap.size + 1) hb2 (by simp [World.drew]; omega) (by simp [World.drew]) (by assumption); have hr2 := resC_next HRES.out hb2; obtain ⟨⟨rb, ru, k0, k1⟩, k2, k3, k4⟩ := hr2; have hb3 := Lib.hid (HBEL.out.trans (hb2.mono HBEL.out.size)); clear hb2))
  go_wp2
  refine bodyPost_ret (v := .agg #[.bool false, .slice none 0 0]) (by simp [results, Tryd.results55, go_sem, k0, k1]) rfl ⟨rfl, ?_⟩
  exact (hb3.out.setCell (by simp; omega) _).setCell (by simp; omega) _

theorem mul_any (a b : Value) (x y : Int) (K : Nat) (w : World) (ha : IntV w a x) (hb : IntV w b y) (hx : x.natAbs < W32 ^ K) (hy : y.natAbs < W32 ^ K) (hK : K ≤ 1000000) :
    Calls Tryd.prog 55 #[a, b] w fun e w' => ∃ val, e = .returned val ∧ IntV w' val (x * y) ∧ Below w.heap.size w w' := by
  obtain ⟨v, rfl, hv⟩ := ha
  obtain ⟨u, rfl, hu⟩ := hb
  have hsg := mul_sign x y
  have hnat : (x * y).natAbs = x.natAbs * y.natAbs := Int.natAbs_mul x y
  by_cases h0 : x.natAbs * y.natAbs = 0
  · have hz : x * y = 0 := by
      have := Int.natAbs_eq_zero.1 (hnat.trans h0)
      exact this
    have fin : ∀ e w', (e = Ending.returned (.agg #[.bool false, .slice none 0 0]) ∧ Below w.heap.size w w') → ∃ val, e = .returned val ∧ IntV w' val (x * y) ∧ Below w.heap.size w w' := fun e w' ⟨he, hb⟩ => by
      rw [hz]
      exact ⟨_, he, ⟨_, rfl, natAt_zero w'⟩, hb⟩
    rcases natAt_shape hv with rfl | ⟨g, n, cap, rfl⟩ <;> rcases natAt_shape hu with rfl | ⟨g', m, cap', rfl⟩
    · exact (mulz_nn _ _ _ _ K w hv hu hx hy hK h0).mono fun e w' h => fin e w' h
    · exact (mulz_ns _ _ _ _ K w _ _ _ hv hu hx hy hK h0).mono fun e w' h => fin e w' h
    · exact (mulz_sn _ _ _ _ K w _ _ _ hv hu hx hy hK h0).mono fun e w' h => fin e w' h
    · exact (mulz_ss _ _ _ _ K w _ _ _ _ _ _ hv hu hx hy hK h0).mono fun e w' h => fin e w' h
  · refine (mul_pos v u x.natAbs y.natAbs (decide (x < 0)) (decide (y < 0)) K w hv hu hx hy hK h0).mono ?_
    rintro e w' ⟨r, rfl, hr, hb⟩
    have hd : decide (x.natAbs * y.natAbs ≠ 0) = true := by rw [decide_eq_true_iff]; exact h0
    rw [hd, Bool.and_true] at hsg
    refine ⟨_, rfl, ⟨r, by rw [hsg], by rw [hnat]; exact hr⟩, hb⟩
end Go.Proofs.YtjmldlbiihaefaaDoor
