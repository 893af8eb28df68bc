/- The reference's integers: Add (numbers that are not negative). -/
import Derived.Test.YtjmldlbiihaefaaDoorRbgE
import Derived.Test.YtjmldlbiihaefaaDoorRbgF
namespace Go.Proofs.YtjmldlbiihaefaaDoor
open Go.RowKit HP

theorem natAt_len {w : World} {g n cap x : Nat} (h : NatAt w (.slice (some ⟨g, 0, none⟩) n cap) x) : decide (0 < n) = decide (0 < x) := by
  obtain ⟨m, h1, h2⟩ := h
  rcases h1 with ⟨h, _⟩ | ⟨g', cap', h, _⟩
  · cases h
  · cases h
    have := h2.zero_iff
    by_cases h0 : n = 0
    · rw [h0, this.1 h0]
    · rw [decide_eq_true (by omega : 0 < n), decide_eq_true (by omega : 0 < x)]

set_option maxHeartbeats 2000000 in
set_option maxRecDepth 100000 in
theorem norm_slice (v : Value) (n : Nat) (F : Nat → Nat) (w : World) (h : U32At w v n F) (hF : ∀ i, i < n → F i < W32) (hn : n ≤ 1099511627776) :
    Calls Tryd.prog 94 #[.agg #[.bool false, v]] w fun x w' => ∃ g n' cap, x = .returned (.agg #[.bool false, .slice (some ⟨g, 0, none⟩) n' cap]) ∧ NatAt w' (.slice (some ⟨g, 0, none⟩) n' cap) (valF F n) ∧ Below w.heap.size w w' := by
  have CT := Lib.hid (fun W (hb : Below w.heap.size w W) => rtrim_full v n F W (h.below hb (Nat.le_refl _)) hF hn)
  have hsh := u32At_shape h
  have hbel : Below w.heap.size w ((w.alloc (.cells #[.bool false, v] 69)).alloc (.cells #[.bool false, .slice none 0 0] 69)) := (((Below.refl _ _).alloc (Nat.le_refl _) _).alloc (by simp) _)
  have HBEL := Lib.hid hbel
  have HRES := Lib.hid (resC_start w (.cells #[.bool false, v] 69) 69 _ rfl)
  have hk0 : ((w.alloc (.cells #[.bool false, v] 69)).alloc (.cells #[.bool false, .slice none 0 0] 69)).cell? ⟨w.heap.size, 0, none⟩ = some (.bool false) := by
    rw [World.cell?_alloc_past _ _ _ (by simp), World.cell?_alloc_at _ _ _ _ rfl]; rfl
  have HK := Lib.hid hk0
  generalize valF F n = x at *
  clear h hF hbel hk0
  rcases hsh with rfl | ⟨g, m, cap, rfl⟩
  all_goals
    go_enter Tryd.func94, Tryd.ntmps94
    go_wp2_with fail
    refine (CT.out _ HBEL.out).mono ?_
    rintro _ w1 ⟨r, rfl, hne, hr, hb1⟩
    have a0 := (hb1.cell (p := ⟨w.heap.size, 0, none⟩) (by simp; omega)).trans HK.out
    have hr1 := resC_next HRES.out hb1
    obtain ⟨⟨rb, ru, k0, k1⟩, k2, k3, k4⟩ := hr1
    have HB1 := Lib.hid (HBEL.out.trans (hb1.mono HBEL.out.size))
    have HR := Lib.hid hr
    have hsr := natAt_shape hr
    clear hr hb1
    rcases hsr with rfl | ⟨g2, n2, cap2, rfl⟩
    · exact absurd rfl hne
    · clear hne
      go_wp2
      refine bodyPost_ret (v := .agg #[.bool false, .slice (some ⟨g2, 0, none⟩) n2 cap2]) (by simp [results, Tryd.results94, go_sem, k0, k1]) rfl ⟨_, _, _, rfl, natAt_set HR.out k0 _ _, ?_⟩
      exact (HB1.out.setCell (by simp) _).setCell (by simp) _

set_option maxHeartbeats 2000000 in
set_option maxRecDepth 100000 in
theorem norm_true (v : Value) (n : Nat) (F : Nat → Nat) (w : World) (h : U32At w v n F) (hF : ∀ i, i < n → F i < W32) (hn : n ≤ 1099511627776) :
    Calls Tryd.prog 94 #[.agg #[.bool true, v]] w fun x w' => ∃ g n' cap, x = .returned (.agg #[.bool (decide (0 < valF F n)), .slice (some ⟨g, 0, none⟩) n' cap]) ∧ NatAt w' (.slice (some ⟨g, 0, none⟩) n' cap) (valF F n) ∧ Below w.heap.size w w' := by
  have CT := Lib.hid (fun W (hb : Below w.heap.size w W) => rtrim_full v n F W (h.below hb (Nat.le_refl _)) hF hn)
  have hsh := u32At_shape h
  have hbel : Below w.heap.size w ((w.alloc (.cells #[.bool true, v] 69)).alloc (.cells #[.bool false, .slice none 0 0] 69)) := (((Below.refl _ _).alloc (Nat.le_refl _) _).alloc (by simp) _)
  have HBEL := Lib.hid hbel
  have HRES := Lib.hid (resC_start w (.cells #[.bool true, v] 69) 69 _ rfl)
  have hk0 : ((w.alloc (.cells #[.bool true, v] 69)).alloc (.cells #[.bool false, .slice none 0 0] 69)).cell? ⟨w.heap.size, 0, none⟩ = some (.bool true) := by
    rw [World.cell?_alloc_past _ _ _ (by simp), World.cell?_alloc_at _ _ _ _ rfl]; rfl
  have HK := Lib.hid hk0
  generalize valF F n = x at *
  clear h hF hbel hk0
  rcases hsh with rfl | ⟨g, m, cap, rfl⟩
  all_goals
    go_enter Tryd.func94, Tryd.ntmps94
    go_wp2_with fail
    refine (CT.out _ HBEL.out).mono ?_
    rintro _ w1 ⟨r, rfl, hne, hr, hb1⟩
    have a0 := (hb1.cell (p := ⟨w.heap.size, 0, none⟩) (by simp; omega)).trans HK.out
    have hr1 := resC_next HRES.out hb1
    obtain ⟨⟨rb, ru, k0, k1⟩, k2, k3, k4⟩ := hr1
    have HB1 := Lib.hid (HBEL.out.trans (hb1.mono HBEL.out.size))
    have HR := Lib.hid hr
    have hsr := natAt_shape hr
    clear hr hb1
    rcases hsr with rfl | ⟨g2, n2, cap2, rfl⟩
    · exact absurd rfl hne
    · clear hne
      have hl : decide (0 < n2) = decide (0 < x) := natAt_len HR.out
      by_cases h0 : 0 < n2
      · have t0 : decide (0 < n2) = true := decide_eq_true h0
        rw [t0] at hl
        have HL := Lib.hid hl
        clear hl h0
        go_wp2
        refine bodyPost_ret (v := .agg #[.bool true, .slice (some ⟨g2, 0, none⟩) n2 cap2]) (by simp [results, Tryd.results94, go_sem, k0, k1]) rfl ⟨_, _, _, by rw [← HL.out], natAt_set HR.out k0 _ _, ?_⟩
        exact (HB1.out.setCell (by simp) _).setCell (by simp) _
      · have t0 : decide (0 < n2) = false := decide_eq_false h0
        rw [t0] at hl
        have HL := Lib.hid hl
        clear hl h0
        go_wp2
        refine bodyPost_ret (v := .agg #[.bool false, .slice (some ⟨g2, 0, none⟩) n2 cap2]) (by simp [results, Tryd.results94, go_sem, k0, k1]) rfl ⟨_, _, _, by rw [← HL.out], natAt_set HR.out k0 _ _, ?_⟩
        exact (HB1.out.setCell (by simp) _).setCell (by simp) _
theorem norm_int {a : Value} {x : Int} {K : Nat} {w : World} (h : IntV w a x) (hx : x.natAbs < W32 ^ K) (hK : K ≤ 1000000) :
    Calls Tryd.prog 94 #[a] w fun e w' => ∃ g n' cap, e = .returned (.agg #[.bool (decide (x < 0)), .slice (some ⟨g, 0, none⟩) n' cap]) ∧ NatAt w' (.slice (some ⟨g, 0, none⟩) n' cap) x.natAbs ∧ Below w.heap.size w w' := by
  obtain ⟨v, rfl, n, h1, h2⟩ := h
  have := h2.le hx
  by_cases h0 : x < 0
  · rw [decide_eq_true h0]
    have c := norm_true v n (dg x.natAbs) w h1 (fun i _ => dg_lt _ i) (by omega)
    rw [valF_dg' h2.1, decide_eq_true (show 0 < x.natAbs by omega)] at c
    exact c
  · rw [decide_eq_false h0]
    have c := norm_slice v n (dg x.natAbs) w h1 (fun i _ => dg_lt _ i) (by omega)
    rw [valF_dg' h2.1] at c
    exact c

end Go.Proofs.YtjmldlbiihaefaaDoor
