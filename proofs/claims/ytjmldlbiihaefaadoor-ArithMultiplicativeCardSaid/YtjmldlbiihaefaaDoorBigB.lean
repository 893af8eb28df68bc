/- Walks of bigint: plus. -/
import Derived.Test.YtjmldlbiihaefaaDoorBigA
import Derived.Deep.OwnRows
namespace Go.Proofs.YtjmldlbiihaefaaDoor
open Go.RowKit HP

theorem add32_any (x y c : Nat) (w : World) (hx : x < 4294967296) (hy : y < 4294967296) (hc : c ≤ 1) :
    Calls Tryd.prog 120 #[.int .u32 x, .int .u32 y, .int .u32 c] w fun e w' => e = .returned (.tuple #[.int .u32 (((x + y + c) % 4294967296 : Nat) : Int), .int .u32 (((x + y + c) / 4294967296 : Nat) : Int)]) ∧ w = w' := by
  have e1 : (((x + y + c) % 4294967296 : Nat) : Int) = ((x : Int) + y + c) % 4294967296 := by omega
  have e2 : (((x + y + c) / 4294967296 : Nat) : Int) = ((x : Int) + y + c) / 4294967296 := by omega
  have e3 : ((x : Int) + y + c) / 4294967296 % 4294967296 = ((x : Int) + y + c) / 4294967296 := by omega
  go_enter Tryd.func120, Tryd.ntmps120
  go_wp2
  go_ret2
  exact ⟨by rw [e1, e2]; first | rfl | (congr 4; omega), rfl⟩

theorem infoU32 : (Tryd.prog.info? 87).map (fun i => (i.zero, i.size, i.bytes)) = some (some (.int .u32 0), 1, 4) := by kernel_rfl
/-- a row of digits that the call has made -/
def DRow (w : World) (g n : Nat) (F : Nat → Nat) : Prop := w.rowIs g 87 n (fun i => .int .u32 (F i))
theorem dRow_at {w : World} {g n : Nat} {F : Nat → Nat} (h : DRow w g n F) : U32At w (.slice (some ⟨g, 0, none⟩) n n) n F :=
  .inr ⟨g, n, rfl, Nat.le_refl _, h.lt, fun _ hi => h.cell hi⟩
theorem dRow_set {w : World} {g n : Nat} {F : Nat → Nat} (h : DRow w g n F) (k d : Nat) : DRow (w.setCell ⟨g, k, none⟩ (.int .u32 d)) g n (upd F k d) := by
  have h1 := World.rowIs.set h k (.int .u32 d)
  refine World.rowIs.congr h1 fun i hi => ?_
  unfold upd
  by_cases h2 : i = k
  · simp [h2]
  · simp [h2]
theorem dRow_made (w : World) (n : Nat) : DRow (w.alloc (.cells (madeCells #[.int .u32 0] n) 87)) w.heap.size n (fun _ => 0) := by
  have := World.rowIs_made w (.int .u32 0) n 87
  exact this
theorem make_u32 (n : Nat) (hn : n ≤ 2199023255552) : ∀ W : World, (Instr.makeSlice 67 (.int .i64 (n : Int)) (.int .i64 (n : Int))).run Tryd.prog W = .ok (.slice (some ⟨W.heap.size, 0, none⟩) n n) (W.alloc (.cells (madeCells #[.int .u32 0] n) 87)) := fun W =>
  run_make_row' 67 87 (.int .u32 0) 4 Tryd.underlying67 infoU32 rfl .i64 .i64 n (by omega) (by omega) W

/-- digits with zeros behind them -/
def padF (m : Nat) (G : Nat → Nat) : Nat → Nat := fun i => if i < m then G i else 0
theorem padF_in {m i : Nat} {G : Nat → Nat} (h : i < m) : padF m G i = G i := if_pos h
theorem padF_out {m i : Nat} {G : Nat → Nat} (h : ¬ i < m) : padF m G i = 0 := if_neg h
theorem valF_pad {m : Nat} {G : Nat → Nat} : ∀ n, m ≤ n → valF (padF m G) n = valF G m
  | 0, h => by obtain rfl : m = 0 := by omega
               rfl
  | n + 1, h => by
    by_cases hm : m = n + 1
    · subst hm
      exact valF_ext _ fun i hi => padF_in hi
    · rw [valF, valF_pad n (by omega), padF_out (by omega), Nat.zero_mul, Nat.add_zero]
theorem upd_lt {H : Nat → Nat} {i d : Nat} (h : ∀ j, j < i → H j < W32) (hd : d < W32) : ∀ j, j < i + 1 → upd H i d j < W32 := fun j hj => by
  by_cases h1 : j = i
  · subst h1; rw [upd_at]; exact hd
  · rw [upd_ne _ _ h1]; exact h j (by omega)
/-- what a round of plus keeps -/
def PlusR (w wr : World) (n i : Nat) (H : Nat → Nat) (c : Nat) (F P : Nat → Nat) : Prop :=
  DRow wr w.heap.size (n + 1) H ∧ Below w.heap.size w wr ∧ (∀ j, j < i → H j < W32) ∧ valF H i + c * W32 ^ i = valF F i + valF P i
theorem plusR_start (w : World) (n : Nat) (F P : Nat → Nat) : PlusR w (w.alloc (.cells (madeCells #[.int .u32 0] (n + 1)) 87)) n 0 (fun _ => 0) 0 F P :=
  ⟨dRow_made w (n + 1), (Below.refl _ _).alloc (Nat.le_refl _) _, fun j hj => absurd hj (Nat.not_lt_zero _), by simp [valF]⟩
theorem plusR_step {w wr : World} {n i c s : Nat} {H F P : Nat → Nat} (h : PlusR w wr n i H c F P) (hs : s = F i + P i + c) : PlusR w (wr.setCell ⟨w.heap.size, i, none⟩ (.int .u32 ((s % 4294967296 : Nat) : Int))) n (i + 1) (upd H i (s % 4294967296)) (s / 4294967296) F P := by
  obtain ⟨h1, h2, h3, h4⟩ := h
  refine ⟨dRow_set h1 i _, h2.setCell (by exact Nat.le_refl _) _, upd_lt h3 (Nat.mod_lt _ (by decide)), ?_⟩
  refine add_step (s := s) (d := s % 4294967296) (c := c) ?_ hs ?_ (upd_at _ _ _)
  · rw [valF_upd_ge _ _ _ (Nat.le_refl i)]; exact h4
  · rw [w32_eq]; omega
theorem plusR_end {w wr : World} {n c : Nat} {H F P : Nat → Nat} (h : PlusR w wr n n H c F P) (hc : c ≤ 1) : U32At (wr.setCell ⟨w.heap.size, n, none⟩ (.int .u32 (c : Int))) (.slice (some ⟨w.heap.size, 0, none⟩) (n + 1) (n + 1)) (n + 1) (upd H n c) ∧
    (∀ i, i < n + 1 → upd H n c i < W32) ∧ valF (upd H n c) (n + 1) = valF F n + valF P n ∧ Below w.heap.size w (wr.setCell ⟨w.heap.size, n, none⟩ (.int .u32 (c : Int))) := by
  obtain ⟨h1, h2, h3, h4⟩ := h
  refine ⟨dRow_at (dRow_set h1 n c), upd_lt h3 (by rw [w32_eq]; omega), ?_, h2.setCell (by exact Nat.le_refl _) _⟩
  rw [valF, valF_upd_ge _ _ _ (Nat.le_refl n), upd_at]
  exact h4
/-- the sum of digits, wherever it lies -/
def SumAt (w w' : World) (v : Value) (s : Nat) : Prop := ∃ n H, U32At w' v n H ∧ (∀ i, i < n → H i < W32) ∧ valF H n = s ∧ n ≤ 1099511627776 ∧ Below w.heap.size w w'

theorem valZ : ∀ n, valF (fun _ => 0) n = 0
  | 0 => rfl
  | n + 1 => by rw [valF, valZ n]; simp
set_option maxHeartbeats 2000000 in
set_option maxRecDepth 100000 in
theorem plus_nn (w : World) :
    Calls Tryd.prog 110 #[.slice none 0 0, .slice none 0 0] w fun x w' => ∃ v, x = .returned v ∧ SumAt w w' v (0 + 0) := by
  have hmk := make_u32 1 (by omega)
  rw [show ((1 : Nat) : Int) = 1 from rfl] at hmk
  have hst := plusR_start w 0 (fun _ => 0) (fun _ => 0)
  have HST := Lib.hid hst
  clear hst
  go_enter Tryd.func110, Tryd.ntmps110
  go_wp2
  refine wp_loop_rounds 1 ?_
  rw [rounds_succ]
  have hr0 := HST.out.1
  have hlt := hr0.lt
  have hc0 := World.rowIs.cell hr0 (show 0 < 0 + 1 by omega)
  have hf0 := World.rowIs.frozen hr0 0
  go_wp2
  go_ret
  refine ⟨_, rfl, 1, fun _ => 0, .inr ⟨w.heap.size, 1, rfl, Nat.le_refl _, by simp, fun i hi => ?_⟩, fun _ _ => (by decide : 0 < W32), by simp [valF], by omega, below_res _ _⟩
  obtain rfl : i = 0 := by omega
  rw [World.cell?_alloc_at _ _ _ _ rfl]
  simp [madeCells]
set_option maxHeartbeats 2000000 in
set_option maxRecDepth 100000 in
theorem plus_ns (w : World) (g' m cap' : Nat) (G : Nat → Nat) (_ : g' < w.heap.size) (hG : ∀ i, i < m → G i < W32) (hd : ∀ i, i < m → w.cell? ⟨g', i, none⟩ = some (.int .u32 (G i))) (hmn : m = 0) :
    Calls Tryd.prog 110 #[.slice none 0 0, .slice (some ⟨g', 0, none⟩) m cap'] w fun x w' => ∃ v, x = .returned v ∧ SumAt w w' v (0 + valF G m) := by
  subst hmn
  have hmk := make_u32 1 (by omega)
  rw [show ((1 : Nat) : Int) = 1 from rfl] at hmk
  have hst := plusR_start w 0 (fun _ => 0) (fun _ => 0)
  have HST := Lib.hid hst
  clear hst
  go_enter Tryd.func110, Tryd.ntmps110
  go_wp2
  refine wp_loop_rounds 1 ?_
  rw [rounds_succ]
  have hr0 := HST.out.1
  have hlt := hr0.lt
  have hc0 := World.rowIs.cell hr0 (show 0 < 0 + 1 by omega)
  have hf0 := World.rowIs.frozen hr0 0
  go_wp2
  go_ret
  refine ⟨_, rfl, 1, fun _ => 0, .inr ⟨w.heap.size, 1, rfl, Nat.le_refl _, by simp, fun i hi => ?_⟩, fun _ _ => (by decide : 0 < W32), by simp [valF], by omega, below_res _ _⟩
  obtain rfl : i = 0 := by omega
  rw [World.cell?_alloc_at _ _ _ _ rfl]
  simp [madeCells]
set_option maxHeartbeats 2000000 in
set_option maxRecDepth 100000 in
theorem plus_sn (w : World) (g n cap : Nat) (F : Nat → Nat) (hg : g < w.heap.size) (hF : ∀ i, i < n → F i < W32) (hc : ∀ i, i < n → w.cell? ⟨g, i, none⟩ = some (.int .u32 (F i))) (hn : n ≤ 549755813888) :
    Calls Tryd.prog 110 #[.slice (some ⟨g, 0, none⟩) n cap, .slice none 0 0] w fun x w' => ∃ v, x = .returned v ∧ SumAt w w' v (valF F n + 0) := by
  have hmk := make_u32 (n + 1) (by omega)
  have hcast : ((n + 1 : Nat) : Int) = (n : Int) + 1 := rfl
  rw [hcast] at hmk
  have HF := Lib.hid hF
  have HC := Lib.hid hc
  clear hF hc hcast
  have hst := plusR_start w n F (fun _ => 0)
  have HST := Lib.hid hst
  clear hst
  go_enter Tryd.func110, Tryd.ntmps110
  go_wp2
  go_loopw [6, 23] (fun y6 y23 wr => ∃ (i c : Nat) (H : Nat → Nat), y23 = .int .i64 i ∧ y6 = .int .u32 c ∧ i ≤ n ∧ c ≤ 1 ∧ Hid (PlusR w wr n i H c F (fun _ => 0))) (fun _ y _ => n - (intOf y).toNat)
  case atStart => exact ⟨0, 0, fun _ => 0, rfl, rfl, Nat.zero_le _, by omega, HST.out⟩
  case round =>
    obtain ⟨i, c, H, rfl, rfl, hi, hcc, HR⟩ := hrel
    have hrow := HR.out.1
    have hbel := HR.out.2.1
    have hlt := hrow.lt
    by_cases hin : i < n
    · have hcell := (hbel.cell (p := ⟨g, i, none⟩) hg).trans (HC.out i hin)
      have hfi := HF.out i hin
      rw [w32_eq] at hfi
      have hoc := World.rowIs.cell hrow (show i < n + 1 by omega)
      have hof := World.rowIs.frozen hrow i
      have ca := fun w => add32_any (F i) 0 c w hfi (by omega) hcc
      have hstep := plusR_step HR.out (s := F i + 0 + c) rfl
      have hsb : (F i + 0 + c) / 4294967296 ≤ 1 := by omega
      have HSTEP := Lib.hid hstep
      have CA := Lib.hid ca
      clear hbel hrow hstep ca
      generalize hsx : F i + 0 + c = s at *
      have ec1 : ((s % 4294967296 : Nat) : Int) = ((s % 4294967296 : Nat) : Int) := rfl
      generalize hd1 : s % 4294967296 = d1 at *
      generalize hd2 : s / 4294967296 = d2 at *
      clear hsx hd1 hd2 ec1
      go_wp2_with (go_at_call 120; refine (CA.out _).mono ?_; rintro x w' ⟨rfl, rfl⟩)
      go_roundw
      case rel => exact ⟨i + 1, d2, _, by go_num, rfl, by omega, hsb, HSTEP.out⟩
      case measure => simp [intOf]; omega
    · obtain rfl : i = n := by omega
      have hoc := World.rowIs.cell hrow (show i < i + 1 by omega)
      have hof := World.rowIs.frozen hrow i
      obtain ⟨e1, e2, e3, e4⟩ := plusR_end HR.out hcc
      have E := Lib.hid (show SumAt w _ _ (valF F i + 0) from ⟨i + 1, _, e1, e2, by rw [e3]; congr 1; exact valZ i, by omega, e4⟩)
      clear hbel hrow e1 e2 e3 e4
      go_wp2
      go_ret
      exact ⟨_, rfl, E.out⟩
set_option maxHeartbeats 2000000 in
set_option maxRecDepth 100000 in
theorem plus_ss (w : World) (g n cap : Nat) (F : Nat → Nat) (hg : g < w.heap.size) (hF : ∀ i, i < n → F i < W32) (hc : ∀ i, i < n → w.cell? ⟨g, i, none⟩ = some (.int .u32 (F i))) (hn : n ≤ 549755813888) (g' m cap' : Nat) (G : Nat → Nat) (hg' : g' < w.heap.size) (hG : ∀ i, i < m → G i < W32) (hd : ∀ i, i < m → w.cell? ⟨g', i, none⟩ = some (.int .u32 (G i))) (hmn : m ≤ n) :
    Calls Tryd.prog 110 #[.slice (some ⟨g, 0, none⟩) n cap, .slice (some ⟨g', 0, none⟩) m cap'] w fun x w' => ∃ v, x = .returned v ∧ SumAt w w' v (valF F n + valF G m) := by
  have hmk := make_u32 (n + 1) (by omega)
  have hcast : ((n + 1 : Nat) : Int) = (n : Int) + 1 := rfl
  rw [hcast] at hmk
  have HF := Lib.hid hF
  have HC := Lib.hid hc
  have HG := Lib.hid hG
  have HD := Lib.hid hd
  have hlen1 : decide (n < m) = false := by rw [decide_eq_false_iff_not]; omega
  clear hF hc hcast hG hd
  have hst := plusR_start w n F (padF m G)
  have HST := Lib.hid hst
  clear hst
  go_enter Tryd.func110, Tryd.ntmps110
  go_wp2
  go_loopw [6, 23] (fun y6 y23 wr => ∃ (i c : Nat) (H : Nat → Nat), y23 = .int .i64 i ∧ y6 = .int .u32 c ∧ i ≤ n ∧ c ≤ 1 ∧ Hid (PlusR w wr n i H c F (padF m G))) (fun _ y _ => n - (intOf y).toNat)
  case atStart => exact ⟨0, 0, fun _ => 0, rfl, rfl, Nat.zero_le _, by omega, HST.out⟩
  case round =>
    obtain ⟨i, c, H, rfl, rfl, hi, hcc, HR⟩ := hrel
    have hrow := HR.out.1
    have hbel := HR.out.2.1
    have hlt := hrow.lt
    by_cases hin : i < n
    · have hcell := (hbel.cell (p := ⟨g, i, none⟩) hg).trans (HC.out i hin)
      have hfi := HF.out i hin
      rw [w32_eq] at hfi
      have hoc := World.rowIs.cell hrow (show i < n + 1 by omega)
      have hof := World.rowIs.frozen hrow i
      by_cases him : i < m
      · have him' : decide ((i : Int) < (m : Int)) = true := by rw [decide_eq_true_iff]; omega
        have hcell2 := (hbel.cell (p := ⟨g', i, none⟩) hg').trans (HD.out i him)
        have hgi := HG.out i him
        rw [w32_eq] at hgi
        have hpad := padF_in (G := G) him
        have ca := fun w => add32_any (F i) (G i) c w hfi hgi hcc
        have hstep := plusR_step HR.out (s := F i + G i + c) (by rw [hpad])
        have hsb : (F i + G i + c) / 4294967296 ≤ 1 := by omega
        have HSTEP := Lib.hid hstep
        have CA := Lib.hid ca
        clear hbel hrow hstep ca hpad
        generalize hsx : F i + G i + c = s at *
        have ec1 : ((s % 4294967296 : Nat) : Int) = ((s % 4294967296 : Nat) : Int) := rfl
        generalize hd1 : s % 4294967296 = d1 at *
        generalize hd2 : s / 4294967296 = d2 at *
        clear hsx hd1 hd2 ec1
        go_wp2_with (go_at_call 120; refine (CA.out _).mono ?_; rintro x w' ⟨rfl, rfl⟩)
        go_roundw
        case rel => exact ⟨i + 1, d2, _, by go_num, rfl, by omega, hsb, HSTEP.out⟩
        case measure => simp [intOf]; omega
      · have him' : decide ((i : Int) < (m : Int)) = false := by rw [decide_eq_false_iff_not]; omega
        have hpad := padF_out (G := G) him
        have ca := fun w => add32_any (F i) 0 c w hfi (by omega) hcc
        have hstep := plusR_step HR.out (s := F i + 0 + c) (by rw [hpad])
        have hsb : (F i + 0 + c) / 4294967296 ≤ 1 := by omega
        have HSTEP := Lib.hid hstep
        have CA := Lib.hid ca
        clear hbel hrow hstep ca hpad
        generalize hsx : F i + 0 + c = s at *
        have ec1 : ((s % 4294967296 : Nat) : Int) = ((s % 4294967296 : Nat) : Int) := rfl
        generalize hd1 : s % 4294967296 = d1 at *
        generalize hd2 : s / 4294967296 = d2 at *
        clear hsx hd1 hd2 ec1
        go_wp2_with (go_at_call 120; refine (CA.out _).mono ?_; rintro x w' ⟨rfl, rfl⟩)
        go_roundw
        case rel => exact ⟨i + 1, d2, _, by go_num, rfl, by omega, hsb, HSTEP.out⟩
        case measure => simp [intOf]; omega
    · obtain rfl : i = n := by omega
      have hoc := World.rowIs.cell hrow (show i < i + 1 by omega)
      have hof := World.rowIs.frozen hrow i
      obtain ⟨e1, e2, e3, e4⟩ := plusR_end HR.out hcc
      have E := Lib.hid (show SumAt w _ _ (valF F i + valF G m) from ⟨i + 1, _, e1, e2, by rw [e3]; rw [valF_pad i (by omega)], by omega, e4⟩)
      clear hbel hrow e1 e2 e3 e4
      go_wp2
      go_ret
      exact ⟨_, rfl, E.out⟩
set_option maxHeartbeats 2000000 in
set_option maxRecDepth 100000 in
theorem plus_sn_swap (w : World) (g n cap : Nat) (F : Nat → Nat) (hg : g < w.heap.size) (hF : ∀ i, i < n → F i < W32) (hc : ∀ i, i < n → w.cell? ⟨g, i, none⟩ = some (.int .u32 (F i))) (hn : n ≤ 549755813888) (hmn : 0 < n) :
    Calls Tryd.prog 110 #[.slice none 0 0, .slice (some ⟨g, 0, none⟩) n cap] w fun x w' => ∃ v, x = .returned v ∧ SumAt w w' v (valF F n + 0) := by
  have hmk := make_u32 (n + 1) (by omega)
  have hcast : ((n + 1 : Nat) : Int) = (n : Int) + 1 := rfl
  rw [hcast] at hmk
  have HF := Lib.hid hF
  have HC := Lib.hid hc
  clear hF hc hcast
  have hst := plusR_start w n F (fun _ => 0)
  have HST := Lib.hid hst
  clear hst
  go_enter Tryd.func110, Tryd.ntmps110
  go_wp2
  go_loopw [6, 23] (fun y6 y23 wr => ∃ (i c : Nat) (H : Nat → Nat), y23 = .int .i64 i ∧ y6 = .int .u32 c ∧ i ≤ n ∧ c ≤ 1 ∧ Hid (PlusR w wr n i H c F (fun _ => 0))) (fun _ y _ => n - (intOf y).toNat)
  case atStart => exact ⟨0, 0, fun _ => 0, rfl, rfl, Nat.zero_le _, by omega, HST.out⟩
  case round =>
    obtain ⟨i, c, H, rfl, rfl, hi, hcc, HR⟩ := hrel
    have hrow := HR.out.1
    have hbel := HR.out.2.1
    have hlt := hrow.lt
    by_cases hin : i < n
    · have hcell := (hbel.cell (p := ⟨g, i, none⟩) hg).trans (HC.out i hin)
      have hfi := HF.out i hin
      rw [w32_eq] at hfi
      have hoc := World.rowIs.cell hrow (show i < n + 1 by omega)
      have hof := World.rowIs.frozen hrow i
      have ca := fun w => add32_any (F i) 0 c w hfi (by omega) hcc
      have hstep := plusR_step HR.out (s := F i + 0 + c) rfl
      have hsb : (F i + 0 + c) / 4294967296 ≤ 1 := by omega
      have HSTEP := Lib.hid hstep
      have CA := Lib.hid ca
      clear hbel hrow hstep ca
      generalize hsx : F i + 0 + c = s at *
      have ec1 : ((s % 4294967296 : Nat) : Int) = ((s % 4294967296 : Nat) : Int) := rfl
      generalize hd1 : s % 4294967296 = d1 at *
      generalize hd2 : s / 4294967296 = d2 at *
      clear hsx hd1 hd2 ec1
      go_wp2_with (go_at_call 120; refine (CA.out _).mono ?_; rintro x w' ⟨rfl, rfl⟩)
      go_roundw
      case rel => exact ⟨i + 1, d2, _, by go_num, rfl, by omega, hsb, HSTEP.out⟩
      case measure => simp [intOf]; omega
    · obtain rfl : i = n := by omega
      have hoc := World.rowIs.cell hrow (show i < i + 1 by omega)
      have hof := World.rowIs.frozen hrow i
      obtain ⟨e1, e2, e3, e4⟩ := plusR_end HR.out hcc
      have E := Lib.hid (show SumAt w _ _ (valF F i + 0) from ⟨i + 1, _, e1, e2, by rw [e3]; congr 1; exact valZ i, by omega, e4⟩)
      clear hbel hrow e1 e2 e3 e4
      go_wp2
      go_ret
      exact ⟨_, rfl, E.out⟩
set_option maxHeartbeats 2000000 in
set_option maxRecDepth 100000 in
theorem plus_ss_swap (w : World) (g n cap : Nat) (F : Nat → Nat) (hg : g < w.heap.size) (hF : ∀ i, i < n → F i < W32) (hc : ∀ i, i < n → w.cell? ⟨g, i, none⟩ = some (.int .u32 (F i))) (hn : n ≤ 549755813888) (g' m cap' : Nat) (G : Nat → Nat) (hg' : g' < w.heap.size) (hG : ∀ i, i < m → G i < W32) (hd : ∀ i, i < m → w.cell? ⟨g', i, none⟩ = some (.int .u32 (G i))) (hmn : m < n) :
    Calls Tryd.prog 110 #[.slice (some ⟨g', 0, none⟩) m cap', .slice (some ⟨g, 0, none⟩) n cap] w fun x w' => ∃ v, x = .returned v ∧ SumAt w w' v (valF F n + valF G m) := by
  have hmk := make_u32 (n + 1) (by omega)
  have hcast : ((n + 1 : Nat) : Int) = (n : Int) + 1 := rfl
  rw [hcast] at hmk
  have HF := Lib.hid hF
  have HC := Lib.hid hc
  have HG := Lib.hid hG
  have HD := Lib.hid hd
  have hlen1 : decide (n < m) = false := by rw [decide_eq_false_iff_not]; omega
  have hlen2 : decide (m < n) = true := by rw [decide_eq_true_iff]; omega
  clear hF hc hcast hG hd
  have hst := plusR_start w n F (padF m G)
  have HST := Lib.hid hst
  clear hst
  go_enter Tryd.func110, Tryd.ntmps110
  go_wp2
  go_loopw [6, 23] (fun y6 y23 wr => ∃ (i c : Nat) (H : Nat → Nat), y23 = .int .i64 i ∧ y6 = .int .u32 c ∧ i ≤ n ∧ c ≤ 1 ∧ Hid (PlusR w wr n i H c F (padF m G))) (fun _ y _ => n - (intOf y).toNat)
  case atStart => exact ⟨0, 0, fun _ => 0, rfl, rfl, Nat.zero_le _, by omega, HST.out⟩
  case round =>
    obtain ⟨i, c, H, rfl, rfl, hi, hcc, HR⟩ := hrel
    have hrow := HR.out.1
    have hbel := HR.out.2.1
    have hlt := hrow.lt
    by_cases hin : i < n
    · have hcell := (hbel.cell (p := ⟨g, i, none⟩) hg).trans (HC.out i hin)
      have hfi := HF.out i hin
      rw [w32_eq] at hfi
      have hoc := World.rowIs.cell hrow (show i < n + 1 by omega)
      have hof := World.rowIs.frozen hrow i
      by_cases him : i < m
      · have him' : decide ((i : Int) < (m : Int)) = true := by rw [decide_eq_true_iff]; omega
        have hcell2 := (hbel.cell (p := ⟨g', i, none⟩) hg').trans (HD.out i him)
        have hgi := HG.out i him
        rw [w32_eq] at hgi
        have hpad := padF_in (G := G) him
        have ca := fun w => add32_any (F i) (G i) c w hfi hgi hcc
        have hstep := plusR_step HR.out (s := F i + G i + c) (by rw [hpad])
        have hsb : (F i + G i + c) / 4294967296 ≤ 1 := by omega
        have HSTEP := Lib.hid hstep
        have CA := Lib.hid ca
        clear hbel hrow hstep ca hpad
        generalize hsx : F i + G i + c = s at *
        have ec1 : ((s % 4294967296 : Nat) : Int) = ((s % 4294967296 : Nat) : Int) := rfl
        generalize hd1 : s % 4294967296 = d1 at *
        generalize hd2 : s / 4294967296 = d2 at *
        clear hsx hd1 hd2 ec1
        go_wp2_with (go_at_call 120; refine (CA.out _).mono ?_; rintro x w' ⟨rfl, rfl⟩)
        go_roundw
        case rel => exact ⟨i + 1, d2, _, by go_num, rfl, by omega, hsb, HSTEP.out⟩
        case measure => simp [intOf]; omega
      · have him' : decide ((i : Int) < (m : Int)) = false := by rw [decide_eq_false_iff_not]; omega
        have hpad := padF_out (G := G) him
        have ca := fun w => add32_any (F i) 0 c w hfi (by omega) hcc
        have hstep := plusR_step HR.out (s := F i + 0 + c) (by rw [hpad])
        have hsb : (F i + 0 + c) / 4294967296 ≤ 1 := by omega
        have HSTEP := Lib.hid hstep
        have CA := Lib.hid ca
        clear hbel hrow hstep ca hpad
        generalize hsx : F i + 0 + c = s at *
        have ec1 : ((s % 4294967296 : Nat) : Int) = ((s % 4294967296 : Nat) : Int) := rfl
        generalize hd1 : s % 4294967296 = d1 at *
        generalize hd2 : s / 4294967296 = d2 at *
        clear hsx hd1 hd2 ec1
        go_wp2_with (go_at_call 120; refine (CA.out _).mono ?_; rintro x w' ⟨rfl, rfl⟩)
        go_roundw
        case rel => exact ⟨i + 1, d2, _, by go_num, rfl, by omega, hsb, HSTEP.out⟩
        case measure => simp [intOf]; omega
    · obtain rfl : i = n := by omega
      have hoc := World.rowIs.cell hrow (show i < i + 1 by omega)
      have hof := World.rowIs.frozen hrow i
      obtain ⟨e1, e2, e3, e4⟩ := plusR_end HR.out hcc
      have E := Lib.hid (show SumAt w _ _ (valF F i + valF G m) from ⟨i + 1, _, e1, e2, by rw [e3]; rw [valF_pad i (by omega)], by omega, e4⟩)
      clear hbel hrow e1 e2 e3 e4
      go_wp2
      go_ret
      exact ⟨_, rfl, E.out⟩

theorem SumAt.congr {w w' : World} {v : Value} {s s' : Nat} (h : SumAt w w' v s) (e : s = s') : SumAt w w' v s' := e ▸ h
/-- the sum of two lists of digits -/
theorem plus_any (v u : Value) (n m : Nat) (F G : Nat → Nat) (w : World) (h : U32At w v n F) (k : U32At w u m G) (hF : ∀ i, i < n → F i < W32) (hG : ∀ i, i < m → G i < W32) (hn : n ≤ 549755813888) (hm : m ≤ 549755813888) :
    Calls Tryd.prog 110 #[v, u] w fun x w' => ∃ r, x = .returned r ∧ SumAt w w' r (valF F n + valF G m) := by
  rcases h with ⟨rfl, rfl⟩ | ⟨g, cap, rfl, _, hg, hc⟩
  · rcases k with ⟨rfl, rfl⟩ | ⟨g', cap', rfl, _, hg', hd⟩
    · exact plus_nn w
    · by_cases h0 : m = 0
      · exact (plus_ns w g' m cap' G hg' hG hd h0).mono fun x w' ⟨r, hx, hs⟩ => ⟨r, hx, hs⟩
      · exact (plus_sn_swap w g' m cap' G hg' hG hd hm (by omega)).mono fun x w' ⟨r, hx, hs⟩ => ⟨r, hx, hs.congr (Nat.add_comm _ _)⟩
  · rcases k with ⟨rfl, rfl⟩ | ⟨g', cap', rfl, _, hg', hd⟩
    · exact (plus_sn w g n cap F hg hF hc hn).mono fun x w' ⟨r, hx, hs⟩ => ⟨r, hx, hs⟩
    · by_cases hmn : m ≤ n
      · exact plus_ss w g n cap F hg hF hc hn g' m cap' G hg' hG hd hmn
      · exact (plus_ss_swap w g' m cap' G hg' hG hd hm g n cap F hg hF hc (by omega)).mono fun x w' ⟨r, hx, hs⟩ => ⟨r, hx, hs.congr (Nat.add_comm _ _)⟩
end Go.Proofs.YtjmldlbiihaefaaDoor
