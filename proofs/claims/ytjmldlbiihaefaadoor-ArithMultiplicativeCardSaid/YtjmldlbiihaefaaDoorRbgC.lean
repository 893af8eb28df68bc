/- The reference's integers: plus. -/
import Derived.Test.YtjmldlbiihaefaaDoorRbgB
import Derived.Test.YtjmldlbiihaefaaDoorAriK
namespace Go.Proofs.YtjmldlbiihaefaaDoor
open Go.RowKit HP

theorem dl_snoc (F : Nat → Nat) (m : Nat) : dl F (m + 1) = dl F m ++ [.int .u32 (F m)] := by
  unfold dl; rw [List.range_succ, List.map_append]; rfl
theorem dl_congr {F G : Nat → Nat} {m : Nat} (h : ∀ i, i < m → F i = G i) : dl F m = dl G m := by
  unfold dl
  exact List.map_congr_left fun i hi => by rw [h i (List.mem_range.1 hi)]
/-- what a round of the reference's plus keeps: the digits so far, in a row of the call's own -/
def RPlus (w wr : World) (v : Value) (i c : Nat) (H F P : Nat → Nat) : Prop :=
  wr.ownsRow w.heap.size 87 1 v i (dl H i) ∧ Below w.heap.size w wr ∧ (∀ j, j < i → H j < W32) ∧ valF H i + c * W32 ^ i = valF F i + valF P i
theorem rplus_step {w wr w1 : World} {v v' : Value} {i c s : Nat} {H F P : Nat → Nat} {o : Obj} (h : RPlus w wr v i c H F P) (hs : s = c + F i + P i)
    (hown : w1.ownsRow w.heap.size 87 1 v' (i + 1) (dl H i ++ [.int .u32 ((s % 4294967296 : Nat) : Int)])) (hg : (wr.alloc o).grownBy w1 v.ownBlock) : RPlus w w1 v' (i + 1) (s / 4294967296) (upd H i (s % 4294967296)) F P := by
  obtain ⟨h1, h2, h3, h4⟩ := h
  refine ⟨?_, ?_, upd_lt h3 (Nat.mod_lt _ (by decide)), ?_⟩
  · rw [dl_snoc, upd_at, dl_congr (F := upd H i (s % 4294967296)) (G := H) fun j hj => upd_ne H _ (by omega)]
    exact hown
  · exact (h2.alloc (by have := h2.size; omega) o).grown hg (by have := h2.size; simp; omega) (fun k hk => (h1.lt k hk).1)
  · refine add_step (s := s) (d := s % 4294967296) (c := c) ?_ (by omega) ?_ (upd_at _ _ _)
    · rw [valF_upd_ge _ _ _ (Nat.le_refl i)]; exact h4
    · rw [w32_eq]; omega
theorem rplus_end {w wr w1 : World} {v v' : Value} {i c n m : Nat} {H F P : Nat → Nat} {o : Obj} (h : RPlus w wr v i c H F P) (hc : c ≤ 1) (hi : i ≤ 549755813888)
    (hown : w1.ownsRow w.heap.size 87 1 v' (i + 1) (dl H i ++ [.int .u32 (c : Int)])) (hg : (wr.alloc o).grownBy w1 v.ownBlock) (hF : valF F i = n) (hP : valF P i = m) : SumAt w w1 v' (n + m) := by
  obtain ⟨h1, h2, h3, h4⟩ := h
  refine ⟨i + 1, upd H i c, u32At_owns (B := w.heap.size) (t := 87) ?_, upd_lt h3 (by rw [w32_eq]; omega), ?_, by omega, ?_⟩
  · rw [dl_snoc, upd_at, dl_congr (F := upd H i c) (G := H) fun j hj => upd_ne H _ (by omega)]
    exact hown
  · rw [valF, valF_upd_ge _ _ _ (Nat.le_refl i), upd_at, h4, hF, hP]
  · exact (h2.alloc (by have := h2.size; omega) o).grown hg (by have := h2.size; simp; omega) (fun k hk => (h1.lt k hk).1)

set_option maxHeartbeats 4000000 in
set_option maxRecDepth 100000 in
theorem rplus_ss (g n cap g' m cap' : Nat) (F G : Nat → Nat) (w : World) (hg : g < w.heap.size) (hg' : g' < w.heap.size) (hF : ∀ i, i < n → F i < W32) (hG : ∀ i, i < m → G i < W32) (hn : n ≤ 1000000000) (hm : m ≤ 1000000000)
    (hc : ∀ i, i < n → w.cell? ⟨g, i, none⟩ = some (.int .u32 (F i))) (hd : ∀ i, i < m → w.cell? ⟨g', i, none⟩ = some (.int .u32 (G i))) :
    Calls Tryd.prog 95 #[.slice (some ⟨g, 0, none⟩) n cap, .slice (some ⟨g', 0, none⟩) m cap'] w fun x w' => ∃ v, x = .returned v ∧ SumAt w w' v (valF F n + valF G m) := by
  obtain ⟨i0, hi, hz0, hz1, hz2⟩ := info_parts infoU32
  have HF := Lib.hid hF
  have HG := Lib.hid hG
  have HC := Lib.hid hc
  have HD := Lib.hid hd
  have hst : RPlus w w (.slice none 0 0) 0 0 (fun _ => 0) (padF n F) (padF m G) := ⟨World.ownsRow_nil _ _ _ _, Below.refl _ _, fun j hj => absurd hj (Nat.not_lt_zero _), by simp [valF]⟩
  have HST := Lib.hid hst
  clear hF hG hc hd hst
  go_enter Tryd.func95, Tryd.ntmps95
  go_wp2
  go_loopw [5, 6, 7] (fun y5 y6 y7 wr => ∃ (i c : Nat) (H : Nat → Nat), y7 = .int .i64 i ∧ y6 = .int .u64 c ∧ i ≤ n + m ∧ (i ≤ n ∨ i ≤ m) ∧ c ≤ 1 ∧ Hid (RPlus w wr y5 i c H (padF n F) (padF m G))) (fun _ _ y _ => n + m - (intOf y).toNat)
  case atStart => exact ⟨0, 0, fun _ => 0, rfl, rfl, Nat.zero_le _, .inl (Nat.zero_le _), by omega, HST.out⟩
  case round =>
    obtain ⟨i, c, H, rfl, rfl, hi1, hi2, hcc, HR⟩ := hrel
    have hown := HR.out.1
    have hbel := HR.out.2.1
    have hsz := hbel.size
    by_cases hin : i < n
    · have t1 : decide (i < n) = true := by rw [decide_eq_true_iff]; exact hin
      have hcell := (hbel.cell (p := ⟨g, i, none⟩) hg).trans (HC.out i hin)
      have hfi := HF.out i hin
      rw [w32_eq] at hfi
      have hpf := padF_in (G := F) hin
      by_cases him : i < m
      · have t2 : decide (i < m) = true := by rw [decide_eq_true_iff]; exact him
        have hcell2 := (hbel.cell (p := ⟨g', i, none⟩) hg').trans (HD.out i him)
        have hgi := HG.out i him
        rw [w32_eq] at hgi
        have hpg := padF_in (G := G) him
        have hs : c + F i + G i = c + padF n F i + padF m G i := by rw [hpf, hpg]
        have hsb : (c + F i + G i) / 4294967296 ≤ 1 := by omega
        have hcast : (((c + F i + G i : Nat)) : Int) = (c : Int) + (F i : Int) + (G i : Int) := by simp
        have e1 : ((((c + F i + G i) % 4294967296 : Nat)) : Int) = ((c : Int) + (F i : Int) + (G i : Int)) % 4294967296 := by rw [← hcast]; omega
        have e2 : ((((c + F i + G i) / 4294967296 : Nat)) : Int) = ((c : Int) + (F i : Int) + (G i : Int)) / 4294967296 := by rw [← hcast]; omega
        have hib : i ≤ 1000000000 := by omega
        have E1 := Lib.hid e1
        have E2 := Lib.hid e2
        have HSS := Lib.hid hs
        clear hbel hpf hpg hs hcast e1 e2
        go_wp2_with (at_builtin; refine wpList_append_own _ rfl _ _ 67 rfl w.heap.size 87 i0 (.int .u32 0) 1 4 Tryd.underlying67 hi hz0 hz1 hz2 rfl (by decide) _ _ _ rfl (hown.alloc _) ⟨wr.heap.size, 0, none⟩ 1 1 [.int .u32 (((c : Int) + (F i : Int) + (G i : Int)) % 4294967296)] rfl rfl (cell_one_new _ _ _) (one_one _ _) (by unfold maxLen; omega) (by omega) (by simp; omega) ?_)
        intro v' w1 hown' hgrow _
        have hstep := rplus_step HR.out HSS.out (by rw [E1.out]; exact hown') hgrow
        have HSTEP := Lib.hid hstep
        clear hown' hgrow hown hstep
        go_wp2
        go_roundw
        case rel => exact ⟨i + 1, (c + F i + G i) / 4294967296, _, by go_num, by rw [E2.out], by omega, by omega, hsb, HSTEP.out⟩
        case measure => simp [intOf]; omega
      · have t2 : decide (i < m) = false := by rw [decide_eq_false_iff_not]; exact him
        have hpg := padF_out (G := G) him
        have hs : c + F i = c + padF n F i + padF m G i := by rw [hpf, hpg]; rfl
        have hsb : (c + F i) / 4294967296 ≤ 1 := by omega
        have hcast : (((c + F i : Nat)) : Int) = (c : Int) + (F i : Int) := by simp
        have e1 : ((((c + F i) % 4294967296 : Nat)) : Int) = ((c : Int) + (F i : Int)) % 4294967296 := by rw [← hcast]; omega
        have e2 : ((((c + F i) / 4294967296 : Nat)) : Int) = ((c : Int) + (F i : Int)) / 4294967296 := by rw [← hcast]; omega
        have hib : i ≤ 1000000000 := by omega
        have E1 := Lib.hid e1
        have E2 := Lib.hid e2
        have HSS := Lib.hid hs
        clear hbel hpf hpg hs hcast e1 e2
        go_wp2_with (at_builtin; refine wpList_append_own _ rfl _ _ 67 rfl w.heap.size 87 i0 (.int .u32 0) 1 4 Tryd.underlying67 hi hz0 hz1 hz2 rfl (by decide) _ _ _ rfl (hown.alloc _) ⟨wr.heap.size, 0, none⟩ 1 1 [.int .u32 (((c : Int) + (F i : Int)) % 4294967296)] rfl rfl (cell_one_new _ _ _) (one_one _ _) (by unfold maxLen; omega) (by omega) (by simp; omega) ?_)
        intro v' w1 hown' hgrow _
        have hstep := rplus_step HR.out HSS.out (by rw [E1.out]; exact hown') hgrow
        have HSTEP := Lib.hid hstep
        clear hown' hgrow hown hstep
        go_wp2
        go_roundw
        case rel => exact ⟨i + 1, (c + F i) / 4294967296, _, by go_num, by rw [E2.out], by omega, by omega, hsb, HSTEP.out⟩
        case measure => simp [intOf]; omega
    · have t1 : decide (i < n) = false := by rw [decide_eq_false_iff_not]; exact hin
      have hpf := padF_out (G := F) hin
      by_cases him : i < m
      · have t2 : decide (i < m) = true := by rw [decide_eq_true_iff]; exact him
        have hcell2 := (hbel.cell (p := ⟨g', i, none⟩) hg').trans (HD.out i him)
        have hgi := HG.out i him
        rw [w32_eq] at hgi
        have hpg := padF_in (G := G) him
        have hs : c + G i = c + padF n F i + padF m G i := by rw [hpf, hpg]; rfl
        have hsb : (c + G i) / 4294967296 ≤ 1 := by omega
        have hcast : (((c + G i : Nat)) : Int) = (c : Int) + (G i : Int) := by simp
        have e1 : ((((c + G i) % 4294967296 : Nat)) : Int) = ((c : Int) + (G i : Int)) % 4294967296 := by rw [← hcast]; omega
        have e2 : ((((c + G i) / 4294967296 : Nat)) : Int) = ((c : Int) + (G i : Int)) / 4294967296 := by rw [← hcast]; omega
        have hib : i ≤ 1000000000 := by omega
        have E1 := Lib.hid e1
        have E2 := Lib.hid e2
        have HSS := Lib.hid hs
        clear hbel hpf hpg hs hcast e1 e2
        go_wp2_with (at_builtin; refine wpList_append_own _ rfl _ _ 67 rfl w.heap.size 87 i0 (.int .u32 0) 1 4 Tryd.underlying67 hi hz0 hz1 hz2 rfl (by decide) _ _ _ rfl (hown.alloc _) ⟨wr.heap.size, 0, none⟩ 1 1 [.int .u32 (((c : Int) + (G i : Int)) % 4294967296)] rfl rfl (cell_one_new _ _ _) (one_one _ _) (by unfold maxLen; omega) (by omega) (by simp; omega) ?_)
        intro v' w1 hown' hgrow _
        have hstep := rplus_step HR.out HSS.out (by rw [E1.out]; exact hown') hgrow
        have HSTEP := Lib.hid hstep
        clear hown' hgrow hown hstep
        go_wp2
        go_roundw
        case rel => exact ⟨i + 1, (c + G i) / 4294967296, _, by go_num, by rw [E2.out], by omega, by omega, hsb, HSTEP.out⟩
        case measure => simp [intOf]; omega
      · have t2 : decide (i < m) = false := by rw [decide_eq_false_iff_not]; exact him
        have hv1 : valF (padF n F) i = valF F n := valF_pad i (by omega)
        have hv2 : valF (padF m G) i = valF G m := valF_pad i (by omega)
        have hown2 := hown.alloc (.cells #[.int .u32 (c : Int)] 87)
        have hib : i ≤ 1000000000 := by omega
        clear hbel hpf
        go_wp2_with (at_builtin; refine wpList_append_own _ rfl _ _ 67 rfl w.heap.size 87 i0 (.int .u32 0) 1 4 Tryd.underlying67 hi hz0 hz1 hz2 rfl (by decide) _ _ _ rfl (hown.alloc _) ⟨wr.heap.size, 0, none⟩ 1 1 [.int .u32 (c : Int)] rfl rfl (cell_one_new _ _ _) (one_one _ _) (by unfold maxLen; omega) (by omega) (by simp; omega) ?_)
        intro v' w1 hown' hgrow _
        have hend := rplus_end HR.out hcc (by omega) hown' hgrow hv1 hv2
        have HEND := Lib.hid hend
        clear hown' hgrow hown hown2 hend
        go_wp2
        go_ret
        exact ⟨_, rfl, HEND.out⟩
set_option maxHeartbeats 4000000 in
set_option maxRecDepth 100000 in
theorem rplus_nn (w : World) :
    Calls Tryd.prog 95 #[.slice none 0 0, .slice none 0 0] w fun x w' => ∃ v, x = .returned v ∧ SumAt w w' v (0 + 0) := by
  obtain ⟨i0, hi, hz0, hz1, hz2⟩ := info_parts infoU32
  have hst : RPlus w w (.slice none 0 0) 0 0 (fun _ => 0) (fun _ => 0) (fun _ => 0) := ⟨World.ownsRow_nil _ _ _ _, Below.refl _ _, fun j hj => absurd hj (Nat.not_lt_zero _), by simp [valF]⟩
  have HST := Lib.hid hst
  clear hst
  go_enter Tryd.func95, Tryd.ntmps95
  go_wp2
  go_loopw [5, 6, 7] (fun y5 y6 y7 wr => ∃ (i c : Nat) (H : Nat → Nat), y7 = .int .i64 i ∧ y6 = .int .u64 c ∧ i ≤ 0 + 0 ∧ (i ≤ 0 ∨ i ≤ 0) ∧ c ≤ 1 ∧ Hid (RPlus w wr y5 i c H (fun _ => 0) (fun _ => 0))) (fun _ _ y _ => 0 + 0 - (intOf y).toNat)
  case atStart => exact ⟨0, 0, fun _ => 0, rfl, rfl, Nat.zero_le _, .inl (Nat.zero_le _), by omega, HST.out⟩
  case round =>
    obtain ⟨i, c, H, rfl, rfl, hi1, hi2, hcc, HR⟩ := hrel
    have hown := HR.out.1
    have hbel := HR.out.2.1
    have hsz := hbel.size
    obtain rfl : i = 0 := by omega
    have hv1 : valF (fun _ => 0) 0 = 0 := valZ 0
    have hv2 : valF (fun _ => 0) 0 = 0 := valZ 0
    have hib : 0 ≤ 1000000000 := by omega
    clear hbel
    go_wp2_with (at_builtin; refine wpList_append_own _ rfl _ _ 67 rfl w.heap.size 87 i0 (.int .u32 0) 1 4 Tryd.underlying67 hi hz0 hz1 hz2 rfl (by decide) _ _ _ rfl (hown.alloc _) ⟨wr.heap.size, 0, none⟩ 1 1 [.int .u32 (c : Int)] rfl rfl (cell_one_new _ _ _) (one_one _ _) (by unfold maxLen; omega) (by omega) (by simp; omega) ?_)
    intro v' w1 hown' hgrow _
    have hend := rplus_end HR.out hcc (by omega) hown' hgrow hv1 hv2
    have HEND := Lib.hid hend
    clear hown' hgrow hown hend
    go_wp2
    go_ret
    exact ⟨_, rfl, HEND.out⟩
set_option maxHeartbeats 4000000 in
set_option maxRecDepth 100000 in
theorem rplus_sn (w : World) (g n cap : Nat) (F : Nat → Nat) (hg : g < w.heap.size) (hF : ∀ i, i < n → F i < W32) (hn : n ≤ 1000000000) (hc : ∀ i, i < n → w.cell? ⟨g, i, none⟩ = some (.int .u32 (F i))) :
    Calls Tryd.prog 95 #[.slice (some ⟨g, 0, none⟩) n cap, .slice none 0 0] w fun x w' => ∃ v, x = .returned v ∧ SumAt w w' v (valF F n + 0) := by
  obtain ⟨i0, hi, hz0, hz1, hz2⟩ := info_parts infoU32
  have HF := Lib.hid hF
  have HC := Lib.hid hc
  have hst : RPlus w w (.slice none 0 0) 0 0 (fun _ => 0) (padF n F) (fun _ => 0) := ⟨World.ownsRow_nil _ _ _ _, Below.refl _ _, fun j hj => absurd hj (Nat.not_lt_zero _), by simp [valF]⟩
  have HST := Lib.hid hst
  clear hF hc hst
  go_enter Tryd.func95, Tryd.ntmps95
  go_wp2
  go_loopw [5, 6, 7] (fun y5 y6 y7 wr => ∃ (i c : Nat) (H : Nat → Nat), y7 = .int .i64 i ∧ y6 = .int .u64 c ∧ i ≤ n + 0 ∧ (i ≤ n ∨ i ≤ 0) ∧ c ≤ 1 ∧ Hid (RPlus w wr y5 i c H (padF n F) (fun _ => 0))) (fun _ _ y _ => n + 0 - (intOf y).toNat)
  case atStart => exact ⟨0, 0, fun _ => 0, rfl, rfl, Nat.zero_le _, .inl (Nat.zero_le _), by omega, HST.out⟩
  case round =>
    obtain ⟨i, c, H, rfl, rfl, hi1, hi2, hcc, HR⟩ := hrel
    have hown := HR.out.1
    have hbel := HR.out.2.1
    have hsz := hbel.size
    by_cases hin : i < n
    · have t1 : decide (i < n) = true := by rw [decide_eq_true_iff]; exact hin
      have hcell := (hbel.cell (p := ⟨g, i, none⟩) hg).trans (HC.out i hin)
      have hfi := HF.out i hin
      rw [w32_eq] at hfi
      have hpf := padF_in (G := F) hin
      have hpg : (0 : Nat) = 0 := rfl
      have hs : c + F i = c + padF n F i + (fun _ => 0) i := by rw [hpf]; rfl
      have hsb : (c + F i) / 4294967296 ≤ 1 := by omega
      have hcast : (((c + F i : Nat)) : Int) = (c : Int) + (F i : Int) := by simp
      have e1 : ((((c + F i) % 4294967296 : Nat)) : Int) = ((c : Int) + (F i : Int)) % 4294967296 := by rw [← hcast]; omega
      have e2 : ((((c + F i) / 4294967296 : Nat)) : Int) = ((c : Int) + (F i : Int)) / 4294967296 := by rw [← hcast]; omega
      have hib : i ≤ 1000000000 := by omega
      have E1 := Lib.hid e1
      have E2 := Lib.hid e2
      have HSS := Lib.hid hs
      clear hbel hpf hpg hs hcast e1 e2
      go_wp2_with (at_builtin; refine wpList_append_own _ rfl _ _ 67 rfl w.heap.size 87 i0 (.int .u32 0) 1 4 Tryd.underlying67 hi hz0 hz1 hz2 rfl (by decide) _ _ _ rfl (hown.alloc _) ⟨wr.heap.size, 0, none⟩ 1 1 [.int .u32 (((c : Int) + (F i : Int)) % 4294967296)] rfl rfl (cell_one_new _ _ _) (one_one _ _) (by unfold maxLen; omega) (by omega) (by simp; omega) ?_)
      intro v' w1 hown' hgrow _
      have hstep := rplus_step HR.out HSS.out (by rw [E1.out]; exact hown') hgrow
      have HSTEP := Lib.hid hstep
      clear hown' hgrow hown hstep
      go_wp2
      go_roundw
      case rel => exact ⟨i + 1, (c + F i) / 4294967296, _, by go_num, by rw [E2.out], by omega, by omega, hsb, HSTEP.out⟩
      case measure => simp [intOf]; omega
    · have t1 : decide (i < n) = false := by rw [decide_eq_false_iff_not]; exact hin
      have hv1 : valF (padF n F) i = valF F n := valF_pad i (by omega)
      have hv2 : valF (fun _ => 0) i = 0 := valZ i
      have hib : i ≤ 1000000000 := by omega
      clear hbel
      go_wp2_with (at_builtin; refine wpList_append_own _ rfl _ _ 67 rfl w.heap.size 87 i0 (.int .u32 0) 1 4 Tryd.underlying67 hi hz0 hz1 hz2 rfl (by decide) _ _ _ rfl (hown.alloc _) ⟨wr.heap.size, 0, none⟩ 1 1 [.int .u32 (c : Int)] rfl rfl (cell_one_new _ _ _) (one_one _ _) (by unfold maxLen; omega) (by omega) (by simp; omega) ?_)
      intro v' w1 hown' hgrow _
      have hend := rplus_end HR.out hcc (by omega) hown' hgrow hv1 hv2
      have HEND := Lib.hid hend
      clear hown' hgrow hown hend
      go_wp2
      go_ret
      exact ⟨_, rfl, HEND.out⟩
set_option maxHeartbeats 4000000 in
set_option maxRecDepth 100000 in
theorem rplus_ns (w : World) (g' m cap' : Nat) (G : Nat → Nat) (hg' : g' < w.heap.size) (hG : ∀ i, i < m → G i < W32) (hm : m ≤ 1000000000) (hd : ∀ i, i < m → w.cell? ⟨g', i, none⟩ = some (.int .u32 (G i))) :
    Calls Tryd.prog 95 #[.slice none 0 0, .slice (some ⟨g', 0, none⟩) m cap'] w fun x w' => ∃ v, x = .returned v ∧ SumAt w w' v (0 + valF G m) := by
  obtain ⟨i0, hi, hz0, hz1, hz2⟩ := info_parts infoU32
  have HG := Lib.hid hG
  have HD := Lib.hid hd
  have hst : RPlus w w (.slice none 0 0) 0 0 (fun _ => 0) (fun _ => 0) (padF m G) := ⟨World.ownsRow_nil _ _ _ _, Below.refl _ _, fun j hj => absurd hj (Nat.not_lt_zero _), by simp [valF]⟩
  have HST := Lib.hid hst
  clear hG hd hst
  go_enter Tryd.func95, Tryd.ntmps95
  go_wp2
  go_loopw [5, 6, 7] (fun y5 y6 y7 wr => ∃ (i c : Nat) (H : Nat → Nat), y7 = .int .i64 i ∧ y6 = .int .u64 c ∧ i ≤ 0 + m ∧ (i ≤ 0 ∨ i ≤ m) ∧ c ≤ 1 ∧ Hid (RPlus w wr y5 i c H (fun _ => 0) (padF m G))) (fun _ _ y _ => 0 + m - (intOf y).toNat)
  case atStart => exact ⟨0, 0, fun _ => 0, rfl, rfl, Nat.zero_le _, .inl (Nat.zero_le _), by omega, HST.out⟩
  case round =>
    obtain ⟨i, c, H, rfl, rfl, hi1, hi2, hcc, HR⟩ := hrel
    have hown := HR.out.1
    have hbel := HR.out.2.1
    have hsz := hbel.size
    by_cases him : i < m
    · have t1 : decide (i < m) = true := by rw [decide_eq_true_iff]; exact him
      have hcell2 := (hbel.cell (p := ⟨g', i, none⟩) hg').trans (HD.out i him)
      have hgi := HG.out i him
      rw [w32_eq] at hgi
      have hpg := padF_in (G := G) him
      have hpf : (0 : Nat) = 0 := rfl
      have hs : c + G i = c + (fun _ => 0) i + padF m G i := by rw [hpg]; rfl
      have hsb : (c + G i) / 4294967296 ≤ 1 := by omega
      have hcast : (((c + G i : Nat)) : Int) = (c : Int) + (G i : Int) := by simp
      have e1 : ((((c + G i) % 4294967296 : Nat)) : Int) = ((c : Int) + (G i : Int)) % 4294967296 := by rw [← hcast]; omega
      have e2 : ((((c + G i) / 4294967296 : Nat)) : Int) = ((c : Int) + (G i : Int)) / 4294967296 := by rw [← hcast]; omega
      have hib : i ≤ 1000000000 := by omega
      have E1 := Lib.hid e1
      have E2 := Lib.hid e2
      have HSS := Lib.hid hs
      clear hbel hpf hpg hs hcast e1 e2
      go_wp2_with (at_builtin; refine wpList_append_own _ rfl _ _ 67 rfl w.heap.size 87 i0 (.int .u32 0) 1 4 Tryd.underlying67 hi hz0 hz1 hz2 rfl (by decide) _ _ _ rfl (hown.alloc _) ⟨wr.heap.size, 0, none⟩ 1 1 [.int .u32 (((c : Int) + (G i : Int)) % 4294967296)] rfl rfl (cell_one_new _ _ _) (one_one _ _) (by unfold maxLen; omega) (by omega) (by simp; omega) ?_)
      intro v' w1 hown' hgrow _
      have hstep := rplus_step HR.out HSS.out (by rw [E1.out]; exact hown') hgrow
      have HSTEP := Lib.hid hstep
      clear hown' hgrow hown hstep
      go_wp2
      go_roundw
      case rel => exact ⟨i + 1, (c + G i) / 4294967296, _, by go_num, by rw [E2.out], by omega, by omega, hsb, HSTEP.out⟩
      case measure => simp [intOf]; omega
    · have t1 : decide (i < m) = false := by rw [decide_eq_false_iff_not]; exact him
      have hv1 : valF (fun _ => 0) i = 0 := valZ i
      have hv2 : valF (padF m G) i = valF G m := valF_pad i (by omega)
      have hib : i ≤ 1000000000 := by omega
      clear hbel
      go_wp2_with (at_builtin; refine wpList_append_own _ rfl _ _ 67 rfl w.heap.size 87 i0 (.int .u32 0) 1 4 Tryd.underlying67 hi hz0 hz1 hz2 rfl (by decide) _ _ _ rfl (hown.alloc _) ⟨wr.heap.size, 0, none⟩ 1 1 [.int .u32 (c : Int)] rfl rfl (cell_one_new _ _ _) (one_one _ _) (by unfold maxLen; omega) (by omega) (by simp; omega) ?_)
      intro v' w1 hown' hgrow _
      have hend := rplus_end HR.out hcc (by omega) hown' hgrow hv1 hv2
      have HEND := Lib.hid hend
      clear hown' hgrow hown hend
      go_wp2
      go_ret
      exact ⟨_, rfl, HEND.out⟩

/-- the sum of two lists of digits, by the reference -/
theorem rplus_any (v u : Value) (n m : Nat) (F G : Nat → Nat) (w : World) (h : U32At w v n F) (k : U32At w u m G) (hF : ∀ i, i < n → F i < W32) (hG : ∀ i, i < m → G i < W32) (hn : n ≤ 1000000000) (hm : m ≤ 1000000000) :
    Calls Tryd.prog 95 #[v, u] w fun x w' => ∃ r, x = .returned r ∧ SumAt w w' r (valF F n + valF G m) := by
  rcases h with ⟨rfl, rfl⟩ | ⟨g, cap, rfl, _, hg, hc⟩ <;> rcases k with ⟨rfl, rfl⟩ | ⟨g', cap', rfl, _, hg', hd⟩
  · exact rplus_nn w
  · exact rplus_ns w g' m cap' G hg' hG hm hd
  · exact rplus_sn w g n cap F hg hF hn hc
  · exact rplus_ss g n cap g' m cap' F G w hg hg' hF hG hn hm hc hd
end Go.Proofs.YtjmldlbiihaefaaDoor
