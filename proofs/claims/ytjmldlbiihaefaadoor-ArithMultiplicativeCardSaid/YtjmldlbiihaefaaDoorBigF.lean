/- Walks of bigint: add and Add for numbers that are not negative. -/
import Derived.Test.YtjmldlbiihaefaaDoorBigD
import Derived.StillTailTactics
namespace Go.Proofs.YtjmldlbiihaefaaDoor
open Go.RowKit HP

theorem resC_start (w : World) (o : Obj) (t : TypeId) (c : Nat) (hc : c = w.heap.size + 1) : ResC c ((w.alloc o).alloc (.cells #[.bool false, .slice none 0 0] t)) := by
  subst hc
  refine ⟨⟨false, .slice none 0 0, ?_, ?_⟩, ?_, ?_, by simp⟩
  · exact (World.cell?_alloc_at _ _ _ _ (by simp)).trans rfl
  · exact (World.cell?_alloc_at _ _ _ _ (by simp)).trans rfl
  · exact World.frozen?_alloc_at _ _ _ _ (by simp)
  · exact World.frozen?_alloc_at _ _ _ _ (by simp)

set_option maxHeartbeats 4000000 in
set_option maxRecDepth 100000 in
theorem add_nat (v u : Value) (x y : Nat) (K : Nat) (w : World) (hv : NatAt w v x) (hu : NatAt w u y) (hx : x < W32 ^ K) (hy : y < W32 ^ K) (hK : K ≤ 1000000) :
    Calls Tryd.prog 92 #[.agg #[.bool false, v], .bool false, u] w fun e w' => ∃ r, e = .returned (.agg #[.bool false, r]) ∧ NatAt w' r (x + y) ∧ Below w.heap.size w w' := by
  have CT1 := Lib.hid (fun W (hb : Below w.heap.size w W) => trimmed_nat (hv.below hb (Nat.le_refl _)) hx hK)
  have CX := Lib.hid (fun W (hb : Below w.heap.size w W) => plus_nat (hv.below hb (Nat.le_refl _)) (hu.below hb (Nat.le_refl _)) hx hy hK)
  have hbel : Below w.heap.size w ((w.alloc (.cells #[.bool false, v] 69)).alloc (.cells #[.bool false, .slice none 0 0] 69)) :=
    (((Below.refl _ _).alloc (Nat.le_refl _) _).alloc (by simp) _)
  have HBEL := Lib.hid hbel
  have HRES := Lib.hid (resC_start w (.cells #[.bool false, v] 69) 69 _ rfl)
  have hsv := natAt_shape hv
  clear hx hy hv hu hbel
  rcases hsv with rfl | ⟨g, n, cap, rfl⟩
  all_goals
    go_enter Tryd.func92, Tryd.ntmps92
    go_wp2_with fail
    refine (CT1.out _ HBEL.out).mono ?_
    rintro _ w0 ⟨rfl, rfl⟩
    go_wp2_with fail
    refine (CX.out _ HBEL.out).mono ?_
    rintro _ w1 ⟨r, rfl, hsum⟩
    have HR1 := Lib.hid (resC_next HRES.out (sumAt_below hsum))
    have HB1 := Lib.hid (HBEL.out.trans ((sumAt_below hsum).mono (by simp; omega)))
    have HSUM := Lib.hid hsum
    clear hsum
    go_wp2_with fail
    refine (signed_sum (neg := false) HSUM.out).mono ?_
    rintro _ w2 ⟨r', rfl, hr, hb2⟩
    have hr2 := resC_next HR1.out hb2
    obtain ⟨⟨rb, ru, k0, k1⟩, k2, k3, k4⟩ := hr2
    have hb3 := Lib.hid (HB1.out.trans (hb2.mono HB1.out.size))
    have HR := Lib.hid hr
    have hsr := natAt_shape hr
    clear hr hb2
    rcases hsr with rfl | ⟨g2, n2, cap2, rfl⟩
    · go_wp2
      refine bodyPost_ret (v := .agg #[.bool false, .slice none 0 0]) (by simp [results, Tryd.results92, go_sem, k0, k1]) rfl ⟨_, rfl, natAt_set HR.out k0 _ _, ?_⟩
      exact (hb3.out.setCell (by simp) _).setCell (by simp) _
    · go_wp2
      refine bodyPost_ret (v := .agg #[.bool false, .slice (some ⟨g2, 0, none⟩) n2 cap2]) (by simp [results, Tryd.results92, go_sem, k0, k1]) rfl ⟨_, rfl, natAt_set HR.out k0 _ _, ?_⟩
      exact (hb3.out.setCell (by simp) _).setCell (by simp) _

theorem resC_start3 (w : World) (o o' : Obj) (t : TypeId) (c : Nat) (hc : c = w.heap.size + 2) : ResC c (((w.alloc o).alloc o').alloc (.cells #[.bool false, .slice none 0 0] t)).drew := by
  subst hc
  refine ⟨⟨false, .slice none 0 0, ?_, ?_⟩, ?_, ?_, by simp [World.drew]⟩
  · exact (World.cell?_alloc_at _ _ _ _ (by simp)).trans rfl
  · exact (World.cell?_alloc_at _ _ _ _ (by simp)).trans rfl
  · exact World.frozen?_alloc_at _ _ _ _ (by simp)
  · exact World.frozen?_alloc_at _ _ _ _ (by simp)

theorem box_start3 (w : World) (p q r s : Value) (o : Obj) (t t' : TypeId) :
    (((w.alloc (.cells #[p, q] t)).alloc (.cells #[r, s] t')).alloc o).cell? ⟨w.heap.size, 0, none⟩ = some p ∧ (((w.alloc (.cells #[p, q] t)).alloc (.cells #[r, s] t')).alloc o).cell? ⟨w.heap.size, 1, none⟩ = some q ∧
    (((w.alloc (.cells #[p, q] t)).alloc (.cells #[r, s] t')).alloc o).cell? ⟨w.heap.size + 1, 0, none⟩ = some r ∧ (((w.alloc (.cells #[p, q] t)).alloc (.cells #[r, s] t')).alloc o).cell? ⟨w.heap.size + 1, 1, none⟩ = some s := by
  refine ⟨?_, ?_, ?_, ?_⟩
  · rw [World.cell?_alloc_past _ _ _ (by simp; omega), World.cell?_alloc_past _ _ _ (by simp), World.cell?_alloc_at _ _ _ _ rfl]; rfl
  · rw [World.cell?_alloc_past _ _ _ (by simp; omega), World.cell?_alloc_past _ _ _ (by simp), World.cell?_alloc_at _ _ _ _ rfl]; rfl
  · rw [World.cell?_alloc_past _ _ _ (by simp), World.cell?_alloc_at _ _ _ _ (by simp)]; rfl
  · rw [World.cell?_alloc_past _ _ _ (by simp), World.cell?_alloc_at _ _ _ _ (by simp)]; rfl
set_option maxHeartbeats 4000000 in
set_option maxRecDepth 100000 in
theorem Add_nn (x y : Nat) (K : Nat) (w : World) (hv : NatAt w (.slice none 0 0) x) (hu : NatAt w (.slice none 0 0) y) (hx : x < W32 ^ K) (hy : y < W32 ^ K) (hK : K ≤ 1000000) :
    Calls Tryd.prog 79 #[.agg #[.bool false, .slice none 0 0], .agg #[.bool false, .slice none 0 0]] w fun e w' => ∃ r, e = .returned (.agg #[.bool false, r]) ∧ NatAt w' r (x + y) ∧ Below w.heap.size w w' := by
  have CT2 := Lib.hid (fun W (hb : Below w.heap.size w W) => trimmed_nat (hu.below hb (Nat.le_refl _)) hy hK)
  have CX := Lib.hid (fun W (hb : Below w.heap.size w W) => add_nat _ _ x y K W (hv.below hb (Nat.le_refl _)) (hu.below hb (Nat.le_refl _)) hx hy hK)
  have hbel : Below w.heap.size w (((w.alloc (.cells #[.bool false, .slice none 0 0] 69)).alloc (.cells #[.bool false, .slice none 0 0] 69)).alloc (.cells #[.bool false, .slice none 0 0] 69)) :=
    (((Below.refl _ _).alloc (Nat.le_refl _) _).alloc (by simp) _).alloc (by simp; omega) _
  have HRES := Lib.hid (resC_start3 w (.cells #[.bool false, .slice none 0 0] 69) (.cells #[.bool false, .slice none 0 0] 69) 69 _ rfl)
  have hbox := box_start3 w (.bool false) (.slice none 0 0) (.bool false) (.slice none 0 0) (.cells #[.bool false, .slice none 0 0] 69) 69 69
  have HBOX := Lib.hid hbox
  have HBEL0 := Lib.hid hbel
  clear hx hy hv hu hbel hbox
  go_enter Tryd.func79, Tryd.ntmps79
  go_wp2
  generalize (((w.alloc (.cells #[.bool false, .slice none 0 0] 69)).alloc (.cells #[.bool false, .slice none 0 0] 69)).alloc (.cells #[.bool false, .slice none 0 0] 69)) = W0 at *
  obtain ⟨b0, b1, b2, b3⟩ := HBOX.out
  have HBEL := Lib.hid (show Below w.heap.size w W0.drew from below_drewN HBEL0.out 1)
  refine wp_region_still_tail 6 (by kernel_rfl) (by kernel_rfl) ?_
  simp only [List.take_succ_cons, List.take_zero, List.drop_succ_cons, List.drop_zero]
  repeat (first | still_step | still_call (CT2.out _ HBEL.out))
  refine wpStill_nil ?_
  change wpList _ _ _ _ _ W0.drew
  clear b0 b1 b2 b3
  go_wp2_with fail
  refine (CX.out _ HBEL.out).mono ?_
  rintro _ w2 ⟨r', rfl, hr, hb2⟩
  have hr2 := resC_next HRES.out hb2
  obtain ⟨⟨rb, ru, k0, k1⟩, k2, k3, k4⟩ := hr2
  have hb3 := Lib.hid (HBEL.out.trans (hb2.mono HBEL.out.size))
  have HR := Lib.hid hr
  have hsr := natAt_shape hr
  clear hr hb2
  rcases hsr with rfl | ⟨g2, n2, cap2, rfl⟩
  · go_wp2
    refine bodyPost_ret (v := .agg #[.bool false, .slice none 0 0]) (by simp [results, Tryd.results79, go_sem, k0, k1]) rfl ⟨_, rfl, natAt_set HR.out k0 _ _, ?_⟩
    exact (hb3.out.setCell (by simp; omega) _).setCell (by simp; omega) _
  · go_wp2
    refine bodyPost_ret (v := .agg #[.bool false, .slice (some ⟨g2, 0, none⟩) n2 cap2]) (by simp [results, Tryd.results79, go_sem, k0, k1]) rfl ⟨_, rfl, natAt_set HR.out k0 _ _, ?_⟩
    exact (hb3.out.setCell (by simp; omega) _).setCell (by simp; omega) _
set_option maxHeartbeats 4000000 in
set_option maxRecDepth 100000 in
theorem Add_ns (x y : Nat) (K : Nat) (w : World) (g' m cap' : Nat) (hv : NatAt w (.slice none 0 0) x) (hu : NatAt w (.slice (some ⟨g', 0, none⟩) m cap') y) (hx : x < W32 ^ K) (hy : y < W32 ^ K) (hK : K ≤ 1000000) :
    Calls Tryd.prog 79 #[.agg #[.bool false, .slice none 0 0], .agg #[.bool false, .slice (some ⟨g', 0, none⟩) m cap']] w fun e w' => ∃ r, e = .returned (.agg #[.bool false, r]) ∧ NatAt w' r (x + y) ∧ Below w.heap.size w w' := by
  have CT2 := Lib.hid (fun W (hb : Below w.heap.size w W) => trimmed_nat (hu.below hb (Nat.le_refl _)) hy hK)
  have CX := Lib.hid (fun W (hb : Below w.heap.size w W) => add_nat _ _ x y K W (hv.below hb (Nat.le_refl _)) (hu.below hb (Nat.le_refl _)) hx hy hK)
  have hbel : Below w.heap.size w (((w.alloc (.cells #[.bool false, .slice none 0 0] 69)).alloc (.cells #[.bool false, .slice (some ⟨g', 0, none⟩) m cap'] 69)).alloc (.cells #[.bool false, .slice none 0 0] 69)) :=
    (((Below.refl _ _).alloc (Nat.le_refl _) _).alloc (by simp) _).alloc (by simp; omega) _
  have HRES := Lib.hid (resC_start3 w (.cells #[.bool false, .slice none 0 0] 69) (.cells #[.bool false, .slice (some ⟨g', 0, none⟩) m cap'] 69) 69 _ rfl)
  have hbox := box_start3 w (.bool false) (.slice none 0 0) (.bool false) (.slice (some ⟨g', 0, none⟩) m cap') (.cells #[.bool false, .slice none 0 0] 69) 69 69
  have HBOX := Lib.hid hbox
  have HBEL0 := Lib.hid hbel
  clear hx hy hv hu hbel hbox
  go_enter Tryd.func79, Tryd.ntmps79
  go_wp2
  generalize (((w.alloc (.cells #[.bool false, .slice none 0 0] 69)).alloc (.cells #[.bool false, .slice (some ⟨g', 0, none⟩) m cap'] 69)).alloc (.cells #[.bool false, .slice none 0 0] 69)) = W0 at *
  obtain ⟨b0, b1, b2, b3⟩ := HBOX.out
  have HBEL := Lib.hid (show Below w.heap.size w W0.drew from below_drewN HBEL0.out 1)
  refine wp_region_still_tail 6 (by kernel_rfl) (by kernel_rfl) ?_
  simp only [List.take_succ_cons, List.take_zero, List.drop_succ_cons, List.drop_zero]
  repeat (first | still_step | still_call (CT2.out _ HBEL.out))
  refine wpStill_nil ?_
  change wpList _ _ _ _ _ W0.drew
  clear b0 b1 b2 b3
  go_wp2_with fail
  refine (CX.out _ HBEL.out).mono ?_
  rintro _ w2 ⟨r', rfl, hr, hb2⟩
  have hr2 := resC_next HRES.out hb2
  obtain ⟨⟨rb, ru, k0, k1⟩, k2, k3, k4⟩ := hr2
  have hb3 := Lib.hid (HBEL.out.trans (hb2.mono HBEL.out.size))
  have HR := Lib.hid hr
  have hsr := natAt_shape hr
  clear hr hb2
  rcases hsr with rfl | ⟨g2, n2, cap2, rfl⟩
  · go_wp2
    refine bodyPost_ret (v := .agg #[.bool false, .slice none 0 0]) (by simp [results, Tryd.results79, go_sem, k0, k1]) rfl ⟨_, rfl, natAt_set HR.out k0 _ _, ?_⟩
    exact (hb3.out.setCell (by simp; omega) _).setCell (by simp; omega) _
  · go_wp2
    refine bodyPost_ret (v := .agg #[.bool false, .slice (some ⟨g2, 0, none⟩) n2 cap2]) (by simp [results, Tryd.results79, go_sem, k0, k1]) rfl ⟨_, rfl, natAt_set HR.out k0 _ _, ?_⟩
    exact (hb3.out.setCell (by simp; omega) _).setCell (by simp; omega) _
set_option maxHeartbeats 4000000 in
set_option maxRecDepth 100000 in
theorem Add_sn (x y : Nat) (K : Nat) (w : World) (g n cap : Nat) (hv : NatAt w (.slice (some ⟨g, 0, none⟩) n cap) x) (hu : NatAt w (.slice none 0 0) y) (hx : x < W32 ^ K) (hy : y < W32 ^ K) (hK : K ≤ 1000000) :
    Calls Tryd.prog 79 #[.agg #[.bool false, .slice (some ⟨g, 0, none⟩) n cap], .agg #[.bool false, .slice none 0 0]] w fun e w' => ∃ r, e = .returned (.agg #[.bool false, r]) ∧ NatAt w' r (x + y) ∧ Below w.heap.size w w' := by
  have CT2 := Lib.hid (fun W (hb : Below w.heap.size w W) => trimmed_nat (hu.below hb (Nat.le_refl _)) hy hK)
  have CX := Lib.hid (fun W (hb : Below w.heap.size w W) => add_nat _ _ x y K W (hv.below hb (Nat.le_refl _)) (hu.below hb (Nat.le_refl _)) hx hy hK)
  have hbel : Below w.heap.size w (((w.alloc (.cells #[.bool false, .slice (some ⟨g, 0, none⟩) n cap] 69)).alloc (.cells #[.bool false, .slice none 0 0] 69)).alloc (.cells #[.bool false, .slice none 0 0] 69)) :=
    (((Below.refl _ _).alloc (Nat.le_refl _) _).alloc (by simp) _).alloc (by simp; omega) _
  have HRES := Lib.hid (resC_start3 w (.cells #[.bool false, .slice (some ⟨g, 0, none⟩) n cap] 69) (.cells #[.bool false, .slice none 0 0] 69) 69 _ rfl)
  have hbox := box_start3 w (.bool false) (.slice (some ⟨g, 0, none⟩) n cap) (.bool false) (.slice none 0 0) (.cells #[.bool false, .slice none 0 0] 69) 69 69
  have HBOX := Lib.hid hbox
  have HBEL0 := Lib.hid hbel
  clear hx hy hv hu hbel hbox
  go_enter Tryd.func79, Tryd.ntmps79
  go_wp2
  generalize (((w.alloc (.cells #[.bool false, .slice (some ⟨g, 0, none⟩) n cap] 69)).alloc (.cells #[.bool false, .slice none 0 0] 69)).alloc (.cells #[.bool false, .slice none 0 0] 69)) = W0 at *
  obtain ⟨b0, b1, b2, b3⟩ := HBOX.out
  have HBEL := Lib.hid (show Below w.heap.size w W0.drew from below_drewN HBEL0.out 1)
  refine wp_region_still_tail 6 (by kernel_rfl) (by kernel_rfl) ?_
  simp only [List.take_succ_cons, List.take_zero, List.drop_succ_cons, List.drop_zero]
  repeat (first | still_step | still_call (CT2.out _ HBEL.out))
  refine wpStill_nil ?_
  change wpList _ _ _ _ _ W0.drew
  clear b0 b1 b2 b3
  go_wp2_with fail
  refine (CX.out _ HBEL.out).mono ?_
  rintro _ w2 ⟨r', rfl, hr, hb2⟩
  have hr2 := resC_next HRES.out hb2
  obtain ⟨⟨rb, ru, k0, k1⟩, k2, k3, k4⟩ := hr2
  have hb3 := Lib.hid (HBEL.out.trans (hb2.mono HBEL.out.size))
  have HR := Lib.hid hr
  have hsr := natAt_shape hr
  clear hr hb2
  rcases hsr with rfl | ⟨g2, n2, cap2, rfl⟩
  · go_wp2
    refine bodyPost_ret (v := .agg #[.bool false, .slice none 0 0]) (by simp [results, Tryd.results79, go_sem, k0, k1]) rfl ⟨_, rfl, natAt_set HR.out k0 _ _, ?_⟩
    exact (hb3.out.setCell (by simp; omega) _).setCell (by simp; omega) _
  · go_wp2
    refine bodyPost_ret (v := .agg #[.bool false, .slice (some ⟨g2, 0, none⟩) n2 cap2]) (by simp [results, Tryd.results79, go_sem, k0, k1]) rfl ⟨_, rfl, natAt_set HR.out k0 _ _, ?_⟩
    exact (hb3.out.setCell (by simp; omega) _).setCell (by simp; omega) _
set_option maxHeartbeats 4000000 in
set_option maxRecDepth 100000 in
theorem Add_ss (x y : Nat) (K : Nat) (w : World) (g n cap : Nat) (g' m cap' : Nat) (hv : NatAt w (.slice (some ⟨g, 0, none⟩) n cap) x) (hu : NatAt w (.slice (some ⟨g', 0, none⟩) m cap') y) (hx : x < W32 ^ K) (hy : y < W32 ^ K) (hK : K ≤ 1000000) :
    Calls Tryd.prog 79 #[.agg #[.bool false, .slice (some ⟨g, 0, none⟩) n cap], .agg #[.bool false, .slice (some ⟨g', 0, none⟩) m cap']] w fun e w' => ∃ r, e = .returned (.agg #[.bool false, r]) ∧ NatAt w' r (x + y) ∧ Below w.heap.size w w' := by
  have CT2 := Lib.hid (fun W (hb : Below w.heap.size w W) => trimmed_nat (hu.below hb (Nat.le_refl _)) hy hK)
  have CX := Lib.hid (fun W (hb : Below w.heap.size w W) => add_nat _ _ x y K W (hv.below hb (Nat.le_refl _)) (hu.below hb (Nat.le_refl _)) hx hy hK)
  have hbel : Below w.heap.size w (((w.alloc (.cells #[.bool false, .slice (some ⟨g, 0, none⟩) n cap] 69)).alloc (.cells #[.bool false, .slice (some ⟨g', 0, none⟩) m cap'] 69)).alloc (.cells #[.bool false, .slice none 0 0] 69)) :=
    (((Below.refl _ _).alloc (Nat.le_refl _) _).alloc (by simp) _).alloc (by simp; omega) _
  have HRES := Lib.hid (resC_start3 w (.cells #[.bool false, .slice (some ⟨g, 0, none⟩) n cap] 69) (.cells #[.bool false, .slice (some ⟨g', 0, none⟩) m cap'] 69) 69 _ rfl)
  have hbox := box_start3 w (.bool false) (.slice (some ⟨g, 0, none⟩) n cap) (.bool false) (.slice (some ⟨g', 0, none⟩) m cap') (.cells #[.bool false, .slice none 0 0] 69) 69 69
  have HBOX := Lib.hid hbox
  have HBEL0 := Lib.hid hbel
  clear hx hy hv hu hbel hbox
  go_enter Tryd.func79, Tryd.ntmps79
  go_wp2
  generalize (((w.alloc (.cells #[.bool false, .slice (some ⟨g, 0, none⟩) n cap] 69)).alloc (.cells #[.bool false, .slice (some ⟨g', 0, none⟩) m cap'] 69)).alloc (.cells #[.bool false, .slice none 0 0] 69)) = W0 at *
  obtain ⟨b0, b1, b2, b3⟩ := HBOX.out
  have HBEL := Lib.hid (show Below w.heap.size w W0.drew from below_drewN HBEL0.out 1)
  refine wp_region_still_tail 6 (by kernel_rfl) (by kernel_rfl) ?_
  simp only [List.take_succ_cons, List.take_zero, List.drop_succ_cons, List.drop_zero]
  repeat (first | still_step | still_call (CT2.out _ HBEL.out))
  refine wpStill_nil ?_
  change wpList _ _ _ _ _ W0.drew
  clear b0 b1 b2 b3
  go_wp2_with fail
  refine (CX.out _ HBEL.out).mono ?_
  rintro _ w2 ⟨r', rfl, hr, hb2⟩
  have hr2 := resC_next HRES.out hb2
  obtain ⟨⟨rb, ru, k0, k1⟩, k2, k3, k4⟩ := hr2
  have hb3 := Lib.hid (HBEL.out.trans (hb2.mono HBEL.out.size))
  have HR := Lib.hid hr
  have hsr := natAt_shape hr
  clear hr hb2
  rcases hsr with rfl | ⟨g2, n2, cap2, rfl⟩
  · go_wp2
    refine bodyPost_ret (v := .agg #[.bool false, .slice none 0 0]) (by simp [results, Tryd.results79, go_sem, k0, k1]) rfl ⟨_, rfl, natAt_set HR.out k0 _ _, ?_⟩
    exact (hb3.out.setCell (by simp; omega) _).setCell (by simp; omega) _
  · go_wp2
    refine bodyPost_ret (v := .agg #[.bool false, .slice (some ⟨g2, 0, none⟩) n2 cap2]) (by simp [results, Tryd.results79, go_sem, k0, k1]) rfl ⟨_, rfl, natAt_set HR.out k0 _ _, ?_⟩
    exact (hb3.out.setCell (by simp; omega) _).setCell (by simp; omega) _

/-- the sum of two integers that are not negative -/
theorem Add_any (a b : Value) (x y : Nat) (K : Nat) (w : World) (ha : IntV w a x) (hb : IntV w b y) (hx : x < W32 ^ K) (hy : y < W32 ^ K) (hK : K ≤ 1000000) :
    Calls Tryd.prog 79 #[a, b] w fun e w' => ∃ val, e = .returned val ∧ IntV w' val ((x + y : Nat) : Int) ∧ Below w.heap.size w w' := by
  obtain ⟨v, rfl, hv⟩ := ha
  obtain ⟨u, rfl, hu⟩ := hb
  rw [bool_nat, bool_nat]
  rw [Int.natAbs_natCast] at hv hu
  have fin : ∀ e w', (∃ r, e = Ending.returned (.agg #[.bool false, r]) ∧ NatAt w' r (x + y) ∧ Below w.heap.size w w') → ∃ val, e = .returned val ∧ IntV w' val ((x + y : Nat) : Int) ∧ Below w.heap.size w w' := fun e w' ⟨r, he, hr, hb⟩ =>
    ⟨_, he, ⟨r, by rw [bool_nat], by rw [Int.natAbs_natCast]; exact hr⟩, hb⟩
  rcases natAt_shape hv with rfl | ⟨g, n, cap, rfl⟩ <;> rcases natAt_shape hu with rfl | ⟨g', m, cap', rfl⟩
  · exact (Add_nn _ _ K w hv hu hx hy hK).mono fun e w' h => fin e w' h
  · exact (Add_ns _ _ K w _ _ _ hv hu hx hy hK).mono fun e w' h => fin e w' h
  · exact (Add_sn _ _ K w _ _ _ hv hu hx hy hK).mono fun e w' h => fin e w' h
  · exact (Add_ss _ _ K w _ _ _ _ _ _ hv hu hx hy hK).mono fun e w' h => fin e w' h
end Go.Proofs.YtjmldlbiihaefaaDoor
