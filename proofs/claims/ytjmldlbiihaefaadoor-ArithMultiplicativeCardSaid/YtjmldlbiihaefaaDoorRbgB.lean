/- The reference's integers: Norm, signed, Of. -/
import Derived.Test.YtjmldlbiihaefaaDoorRbgA
import Derived.Test.YtjmldlbiihaefaaDoorBigF
namespace Go.Proofs.YtjmldlbiihaefaaDoor
open Go.RowKit HP

theorem u32At_shape {w : World} {v : Value} {n : Nat} {F : Nat → Nat} (h : U32At w v n F) : v = .slice none 0 0 ∨ ∃ g n cap, v = .slice (some ⟨g, 0, none⟩) n cap := by
  rcases h with ⟨h, _⟩ | ⟨g, cap, h, _⟩
  · exact .inl h
  · exact .inr ⟨g, n, cap, h⟩
set_option maxHeartbeats 2000000 in
set_option maxRecDepth 100000 in
theorem norm_nat (v : Value) (n : Nat) (F : Nat → Nat) (w : World) (h : U32At w v n F) (hF : ∀ i, i < n → F i < W32) (hn : n ≤ 1099511627776) :
    Calls Tryd.prog 94 #[.agg #[.bool false, v]] w fun x w' => ∃ r, x = .returned (.agg #[.bool false, r]) ∧ NatAt w' r (valF F n) ∧ Below w.heap.size w w' := by
  have CT := Lib.hid (fun W (hb : Below w.heap.size w W) => rtrim_any v n F W (h.below hb (Nat.le_refl _)) hF hn)
  have hsh := u32At_shape h
  have hbel : Below w.heap.size w ((w.alloc (.cells #[.bool false, v] 69)).alloc (.cells #[.bool false, .slice none 0 0] 69)) := (((Below.refl _ _).alloc (Nat.le_refl _) _).alloc (by simp) _)
  have HBEL := Lib.hid hbel
  have HRES := Lib.hid (resC_start w (.cells #[.bool false, v] 69) 69 _ rfl)
  have hk0 : ((w.alloc (.cells #[.bool false, v] 69)).alloc (.cells #[.bool false, .slice none 0 0] 69)).cell? ⟨w.heap.size, 0, none⟩ = some (.bool false) := by
    rw [World.cell?_alloc_past _ _ _ (by simp), World.cell?_alloc_at _ _ _ _ rfl]; rfl
  have HK := Lib.hid hk0
  generalize valF F n = x at *
  clear h hF hbel hk0
  rcases hsh with rfl | ⟨g, m, cap, rfl⟩
  all_goals
    go_enter Tryd.func94, Tryd.ntmps94
    go_wp2_with fail
    refine (CT.out _ HBEL.out).mono ?_
    rintro _ w1 ⟨r, rfl, hr, hb1⟩
    have a0 := (hb1.cell (p := ⟨w.heap.size, 0, none⟩) (by simp; omega)).trans HK.out
    have hr1 := resC_next HRES.out hb1
    obtain ⟨⟨rb, ru, k0, k1⟩, k2, k3, k4⟩ := hr1
    have HB1 := Lib.hid (HBEL.out.trans (hb1.mono HBEL.out.size))
    have HR := Lib.hid hr
    have hsr := natAt_shape hr
    clear hr hb1
    rcases hsr with rfl | ⟨g2, n2, cap2, rfl⟩
    · go_wp2
      refine bodyPost_ret (v := .agg #[.bool false, .slice none 0 0]) (by simp [results, Tryd.results94, go_sem, k0, k1]) rfl ⟨_, rfl, natAt_set HR.out k0 _ _, ?_⟩
      exact (HB1.out.setCell (by simp) _).setCell (by simp) _
    · go_wp2
      refine bodyPost_ret (v := .agg #[.bool false, .slice (some ⟨g2, 0, none⟩) n2 cap2]) (by simp [results, Tryd.results94, go_sem, k0, k1]) rfl ⟨_, rfl, natAt_set HR.out k0 _ _, ?_⟩
      exact (HB1.out.setCell (by simp) _).setCell (by simp) _
set_option maxHeartbeats 2000000 in
set_option maxRecDepth 100000 in
theorem rsigned_nat (v : Value) (n : Nat) (F : Nat → Nat) (w : World) (h : U32At w v n F) (hF : ∀ i, i < n → F i < W32) (hn : n ≤ 1099511627776) :
    Calls Tryd.prog 93 #[.bool false, v] w fun x w' => ∃ r, x = .returned (.agg #[.bool false, r]) ∧ NatAt w' r (valF F n) ∧ Below w.heap.size w w' := by
  have CT := Lib.hid (fun W (hb : Below w.heap.size w W) => norm_nat v n F W (h.below hb (Nat.le_refl _)) hF hn)
  have hbel : Below w.heap.size w (w.alloc (.cells #[.bool false, .slice none 0 0] 69)) := below_res _ _
  have HBEL := Lib.hid hbel
  have HRES := Lib.hid (resW_start w 69)
  have hsh := u32At_shape h
  generalize valF F n = x at *
  clear h hF hbel
  rcases hsh with rfl | ⟨g, m, cap, rfl⟩
  all_goals
    go_enter Tryd.func93, Tryd.ntmps93
    go_wp2_with fail
    refine (CT.out _ HBEL.out).mono ?_
    rintro _ w1 ⟨r, rfl, hr, hb1⟩
    have HR1 := Lib.hid (resW_next HRES.out hb1)
    obtain ⟨⟨rb, ru, k0, k1⟩, k2, k3, _, k4⟩ := HR1.out
    have hlt : w.heap.size < w1.heap.size := by omega
    have HR := Lib.hid hr
    have hsr := natAt_shape hr
    clear hr hb1
    rcases hsr with rfl | ⟨g2, n2, cap2, rfl⟩
    · go_wp2
      refine bodyPost_ret (v := .agg #[.bool false, .slice none 0 0]) (by simp [results, Tryd.results93, go_sem, k0, k1]) rfl ⟨_, rfl, natAt_set HR.out k0 _ _, resW_set HR1.out _ _⟩
    · go_wp2
      refine bodyPost_ret (v := .agg #[.bool false, .slice (some ⟨g2, 0, none⟩) n2 cap2]) (by simp [results, Tryd.results93, go_sem, k0, k1]) rfl ⟨_, rfl, natAt_set HR.out k0 _ _, resW_set HR1.out _ _⟩

set_option maxHeartbeats 2000000 in
set_option maxRecDepth 100000 in
theorem rof_nat (N : Nat) (w : World) (hN : N ≤ 9223372036854775807) :
    Calls Tryd.prog 80 #[.int .i64 N] w fun x w' => ∃ r, x = .returned (.agg #[.bool false, r]) ∧ NatAt w' r N ∧ Below w.heap.size w w' := by
  have t0 : decide ((N : Int) < 0) = false := by simp
  have hres := fun o => resW_next (resW_start w 69) (below_res (w.alloc (.cells #[.bool false, .slice none 0 0] 69)) o)
  have hu := u32At_two (w.alloc (.cells #[.bool false, .slice none 0 0] 69)) (N % 4294967296) (N / 4294967296) 87
  have hs : (w.alloc (.cells #[.bool false, .slice none 0 0] 69)).heap.size = w.heap.size + 1 := by simp
  have e1 : (N : Int) % 4294967296 = ((N % 4294967296 : Nat) : Int) := by omega
  have e2 : (N : Int) / 4294967296 = ((N / 4294967296 : Nat) : Int) := by omega
  rw [← e1, ← e2, hs] at hu
  have hval : valF (fun i => if i = 0 then N % 4294967296 else N / 4294967296) 2 = N := by
    simp [valF, W32]; omega
  have c := fun W (h : U32At W (.slice (some ⟨w.heap.size + 1, 0, none⟩) 2 2) 2 (fun i => if i = 0 then N % 4294967296 else N / 4294967296)) => rsigned_nat _ 2 _ W h (fun i hi => by
    show (if i = 0 then _ else _) < 4294967296
    split <;> omega) (by omega)
  rw [hval] at c
  have C := Lib.hid c
  have HU := Lib.hid hu
  have HRES := Lib.hid hres
  clear c hu hres hval e1 e2
  go_enter Tryd.func80, Tryd.ntmps80
  go_wp2_with fail
  refine (C.out _ HU.out).mono ?_
  rintro _ w1 ⟨r, rfl, hr, hb1⟩
  have HR1 := Lib.hid (resW_next (HRES.out _) hb1)
  obtain ⟨⟨rb, ru, k0, k1⟩, k2, k3, _, k4⟩ := HR1.out
  have hlt : w.heap.size < w1.heap.size := by omega
  have HR := Lib.hid hr
  have hsr := natAt_shape hr
  clear hr hb1
  rcases hsr with rfl | ⟨g2, n2, cap2, rfl⟩
  · go_wp2
    refine bodyPost_ret (v := .agg #[.bool false, .slice none 0 0]) (by simp [results, Tryd.results80, go_sem, k0, k1]) rfl ⟨_, rfl, natAt_set HR.out k0 _ _, resW_set HR1.out _ _⟩
  · go_wp2
    refine bodyPost_ret (v := .agg #[.bool false, .slice (some ⟨g2, 0, none⟩) n2 cap2]) (by simp [results, Tryd.results80, go_sem, k0, k1]) rfl ⟨_, rfl, natAt_set HR.out k0 _ _, resW_set HR1.out _ _⟩
end Go.Proofs.YtjmldlbiihaefaaDoor
