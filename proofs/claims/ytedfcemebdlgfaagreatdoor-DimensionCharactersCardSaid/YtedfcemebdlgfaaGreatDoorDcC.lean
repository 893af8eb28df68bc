/- The space of a character: walked by hand. -/
import Derived.Test.YtedfcemebdlgfaaGreatDoorDcA
import Derived.Test.YtedfcemebdlgfaaGreatDoorDmD
import Derived.Test.YtedfcemebdlgfaaGreatDoorPkDiE
namespace Go.Proofs.YtedfcemebdlgfaaGreatDoor
open Go Go.RowKit Go.VG HP
set_option maxHeartbeats 4000000 in
set_option maxRecDepth 100000 in
theorem char1_any (s g : Nat) (N : Int) (X : Nat → Int) (l : Nat) (sp : Option Addr) (n cap : Nat) (a : Nat) (x : Int) (w : World) (hT : TabW w) (hB : 0 < w.heap.size)
    (hs0 : w.cell? ⟨s, 0, none⟩ = some (.int .i64 N)) (hs1 : w.cell? ⟨s, 1, none⟩ = some (.slice sp n cap))
    (hv : ∀ ρ w', Ext (fun _ => False) w w' → (chA N X l).at ρ w' (.agg #[.int .i64 N, .slice sp n cap]))
    (hg : w.cell? ⟨g, 3, none⟩ = some (.int .i64 x)) (hf : w.frozen? ⟨g, 3, none⟩ = false) (hx : -1000000 ≤ x) (hx2 : x ≤ 1000000) :
    Calls Tryz.prog 32 #[.int .i64 a, .pointer (some ⟨s, 0, none⟩), .pointer (some ⟨g, 0, none⟩)] w fun e w' => e = .returned (.tuple #[]) ∧ ∃ w1 m, Below w.heap.size w w1 ∧ w' = (w1.setCell ⟨g, 3, none⟩ (.int .i64 (x + if (vR N X l a).1.2.1 = 0 then 1 else -1))).drewN m := by
  have hgl : g < w.heap.size := cell_lt hg
  have c := value_any N X l a _ w hT hB hv
  generalize vR N X l a = R at *
  obtain ⟨⟨R1, num, den⟩, er⟩ := R
  have C := Lib.hid c
  have HG : ∀ w1, Below w.heap.size w w1 → w1.cell? ⟨g, 3, none⟩ = some (.int .i64 x) ∧ w1.frozen? ⟨g, 3, none⟩ = false := fun w1 hb => ⟨(hb.cell hgl).trans hg, (hb.frozen hgl).trans hf⟩
  have HH := Lib.hid HG
  clear c HG hT hB hv hg hf
  by_cases hz : num = 0
  · have hd : ((num : Int) == 0) = true := by rw [beq_iff_eq]; omega
    have hr : IntKind.i64.wrap (x + 1) = x + 1 := (IntWalk.i64_left _).trans (IntWalk.wrap64_in (x + 1) (by omega))
    rw [if_pos hz]
    go_enter Tryz.func32, Tryz.ntmps32
    go_wp2_with (go_at_call 33; refine C.out.mono ?_; rintro e w1 ⟨rfl, hb⟩; obtain ⟨hg, hf⟩ := HH.out w1 hb; have hl := Nat.lt_of_lt_of_le hgl hb.size; have ha : ∀ o, (w1.alloc o).cell? ⟨g, 3, none⟩ = some (.int .i64 x) := fun o => (World.cell?_alloc_past _ _ _ hl).trans hg; have hfa : ∀ o, (w1.alloc o).frozen? ⟨g, 3, none⟩ = false := fun o => (World.frozen?_alloc_past _ _ _ hl).trans hf; have HB := Lib.hid hb; clear C HH hs0 hs1 hb hg hf hl hgl)
    go_end0
    exact ⟨rfl, _, 0, HB.out.alloc HB.out.size _, rfl⟩
  · have hd : ((num : Int) == 0) = false := by rw [beq_eq_false_iff_ne]; omega
    have hr : IntKind.i64.wrap (x - 1) = x - 1 := (IntWalk.i64_left _).trans (IntWalk.wrap64_in (x - 1) (by omega))
    rw [if_neg hz]
    go_enter Tryz.func32, Tryz.ntmps32
    go_wp2_with (go_at_call 33; refine C.out.mono ?_; rintro e w1 ⟨rfl, hb⟩; obtain ⟨hg, hf⟩ := HH.out w1 hb; have hl := Nat.lt_of_lt_of_le hgl hb.size; have ha : ∀ o, (w1.alloc o).cell? ⟨g, 3, none⟩ = some (.int .i64 x) := fun o => (World.cell?_alloc_past _ _ _ hl).trans hg; have hfa : ∀ o, (w1.alloc o).frozen? ⟨g, 3, none⟩ = false := fun o => (World.frozen?_alloc_past _ _ _ hl).trans hf; have HB := Lib.hid hb; clear C HH hs0 hs1 hb hg hf hl hgl)
    go_end0
    exact ⟨rfl, _, 0, HB.out.alloc HB.out.size _, rfl⟩
set_option maxHeartbeats 4000000 in
set_option maxRecDepth 100000 in
theorem char2_any (s g : Nat) (N : Int) (X : Nat → Int) (l : Nat) (sp : Option Addr) (n cap : Nat) (a : Nat) (x : Int) (w : World) (hT : TabW w) (hB : 0 < w.heap.size)
    (hs0 : w.cell? ⟨s, 0, none⟩ = some (.int .i64 N)) (hs1 : w.cell? ⟨s, 1, none⟩ = some (.slice sp n cap))
    (hv : ∀ ρ w', Ext (fun _ => False) w w' → (chA N X l).at ρ w' (.agg #[.int .i64 N, .slice sp n cap]))
    (hg : w.cell? ⟨g, 4, none⟩ = some (.int .i64 x)) (hf : w.frozen? ⟨g, 4, none⟩ = false) (hx : -1000000 ≤ x) (hx2 : x ≤ 1000000) :
    Calls Tryz.prog 34 #[.int .i64 a, .pointer (some ⟨s, 0, none⟩), .pointer (some ⟨g, 0, none⟩)] w fun e w' => e = .returned (.tuple #[]) ∧ ∃ w1 m, Below w.heap.size w w1 ∧ w' = (w1.setCell ⟨g, 4, none⟩ (.int .i64 (x + if (vR N X l a).1.2.1 = 0 then 2 else -1))).drewN m := by
  have hgl : g < w.heap.size := cell_lt hg
  have c := value_any N X l a _ w hT hB hv
  generalize vR N X l a = R at *
  obtain ⟨⟨R1, num, den⟩, er⟩ := R
  have C := Lib.hid c
  have HG : ∀ w1, Below w.heap.size w w1 → w1.cell? ⟨g, 4, none⟩ = some (.int .i64 x) ∧ w1.frozen? ⟨g, 4, none⟩ = false := fun w1 hb => ⟨(hb.cell hgl).trans hg, (hb.frozen hgl).trans hf⟩
  have HH := Lib.hid HG
  clear c HG hT hB hv hg hf
  by_cases hz : num = 0
  · have hd : ((num : Int) == 0) = true := by rw [beq_iff_eq]; omega
    have hr : IntKind.i64.wrap (x + 2) = x + 2 := (IntWalk.i64_left _).trans (IntWalk.wrap64_in (x + 2) (by omega))
    rw [if_pos hz]
    go_enter Tryz.func34, Tryz.ntmps34
    go_wp2_with (go_at_call 33; refine C.out.mono ?_; rintro e w1 ⟨rfl, hb⟩; obtain ⟨hg, hf⟩ := HH.out w1 hb; have hl := Nat.lt_of_lt_of_le hgl hb.size; have ha : ∀ o, (w1.alloc o).cell? ⟨g, 4, none⟩ = some (.int .i64 x) := fun o => (World.cell?_alloc_past _ _ _ hl).trans hg; have hfa : ∀ o, (w1.alloc o).frozen? ⟨g, 4, none⟩ = false := fun o => (World.frozen?_alloc_past _ _ _ hl).trans hf; have HB := Lib.hid hb; clear C HH hs0 hs1 hb hg hf hl hgl)
    go_end0
    exact ⟨rfl, _, 0, HB.out.alloc HB.out.size _, rfl⟩
  · have hd : ((num : Int) == 0) = false := by rw [beq_eq_false_iff_ne]; omega
    have hr : IntKind.i64.wrap (x - 1) = x - 1 := (IntWalk.i64_left _).trans (IntWalk.wrap64_in (x - 1) (by omega))
    rw [if_neg hz]
    go_enter Tryz.func34, Tryz.ntmps34
    go_wp2_with (go_at_call 33; refine C.out.mono ?_; rintro e w1 ⟨rfl, hb⟩; obtain ⟨hg, hf⟩ := HH.out w1 hb; have hl := Nat.lt_of_lt_of_le hgl hb.size; have ha : ∀ o, (w1.alloc o).cell? ⟨g, 4, none⟩ = some (.int .i64 x) := fun o => (World.cell?_alloc_past _ _ _ hl).trans hg; have hfa : ∀ o, (w1.alloc o).frozen? ⟨g, 4, none⟩ = false := fun o => (World.frozen?_alloc_past _ _ _ hl).trans hf; have HB := Lib.hid hb; clear C HH hs0 hs1 hb hg hf hl hgl)
    go_end0
    exact ⟨rfl, _, 0, HB.out.alloc HB.out.size _, rfl⟩
def cF (N : Int) (X : Nat → Int) (l : Nat) (a : Nat) : Int := if (vR N X l a).1.2.1 = 0 then 1 else -1
def cT (N : Int) (X : Nat → Int) (l : Nat) (a : Nat) : Int := if (vR N X l a).1.2.1 = 0 then 2 else -1
/-- what is in memory: the character (block s), the result (r), out (g) -/
structure CW (w0 : World) (s r g : Nat) (sp : Option Addr) (ln cap : Nat) (N f K x y : Int) (w : World) : Prop where
  hb : Below w0.heap.size w0 w
  c0 : w.cell? ⟨g, 0, none⟩ = some (.int .i64 N)
  c1 : w.cell? ⟨g, 1, none⟩ = some (.int .i64 f)
  c2 : w.cell? ⟨g, 2, none⟩ = some (.int .i64 K)
  c3 : w.cell? ⟨g, 3, none⟩ = some (.int .i64 x)
  c4 : w.cell? ⟨g, 4, none⟩ = some (.int .i64 y)
  s0 : w.cell? ⟨s, 0, none⟩ = some (.int .i64 N)
  s1 : w.cell? ⟨s, 1, none⟩ = some (.slice sp ln cap)
  fg : ∀ i, w.frozen? ⟨g, i, none⟩ = false
  r0 : ∀ i, i < 5 → w.cell? ⟨r, i, none⟩ = some (.int .i64 0)
  fr : ∀ i, w.frozen? ⟨r, i, none⟩ = false
section
variable {w0 w w1 : World} {s r g : Nat} {sp : Option Addr} {ln cap : Nat} {N f K x y : Int}
theorem CW.go (h : CW w0 s r g sp ln cap N f K x y w) (hb : Below w.heap.size w w1) : CW w0 s r g sp ln cap N f K x y w1 where
  hb := h.hb.trans (hb.mono h.hb.size)
  c0 := (hb.cell (cell_lt h.c0)).trans h.c0
  c1 := (hb.cell (cell_lt h.c1)).trans h.c1
  c2 := (hb.cell (cell_lt h.c2)).trans h.c2
  c3 := (hb.cell (cell_lt h.c3)).trans h.c3
  c4 := (hb.cell (cell_lt h.c4)).trans h.c4
  s0 := (hb.cell (cell_lt h.s0)).trans h.s0
  s1 := (hb.cell (cell_lt h.s1)).trans h.s1
  fg i := (hb.frozen (cell_lt h.c0)).trans (h.fg i)
  r0 i hi := (hb.cell (cell_lt (h.r0 i hi))).trans (h.r0 i hi)
  fr i := (hb.frozen (cell_lt (h.r0 0 (by omega)))).trans (h.fr i)
theorem CW.set3 (h : CW w0 s r g sp ln cap N f K x y w) (hg : w0.heap.size ≤ g) (h3 : g ≠ r) (h4 : g ≠ s) (x' : Int) (m : Nat) : CW w0 s r g sp ln cap N f K x' y ((w.setCell ⟨g, 3, none⟩ (.int .i64 x')).drewN m) := by
  obtain ⟨hb, c0, c1, c2, c3, c4, s0, s1, fg, r0, fr⟩ := h
  refine ⟨below_drewN (hb.setCell hg _) m, ?_, ?_, ?_, ?_, ?_, ?_, ?_, fun i => ?_, fun i hi => ?_, fun i => ?_⟩
  · rw [World.cell?_drewN, World.cell?_setCell_other _ _ _ _ (by simp)]; exact c0
  · rw [World.cell?_drewN, World.cell?_setCell_other _ _ _ _ (by simp)]; exact c1
  · rw [World.cell?_drewN, World.cell?_setCell_other _ _ _ _ (by simp)]; exact c2
  · rw [World.cell?_drewN]; exact World.cell?_setCell_same _ _ _ c3
  · rw [World.cell?_drewN, World.cell?_setCell_other _ _ _ _ (by simp)]; exact c4
  · rw [World.cell?_drewN, World.cell?_setCell_other _ _ _ _ (fun h => h4 (by cases h))]; exact s0
  · rw [World.cell?_drewN, World.cell?_setCell_other _ _ _ _ (fun h => h4 (by cases h))]; exact s1
  · rw [World.frozen?_drewN]; exact (World.frozen?_setCell _ _ _ _).trans (fg i)
  · rw [World.cell?_drewN, World.cell?_setCell_other _ _ _ _ (fun h => h3 (by cases h; rfl))]; exact r0 i hi
  · rw [World.frozen?_drewN]; exact (World.frozen?_setCell _ _ _ _).trans (fr i)
theorem CW.set4 (h : CW w0 s r g sp ln cap N f K x y w) (hg : w0.heap.size ≤ g) (h3 : g ≠ r) (h4 : g ≠ s) (y' : Int) (m : Nat) : CW w0 s r g sp ln cap N f K x y' ((w.setCell ⟨g, 4, none⟩ (.int .i64 y')).drewN m) := by
  obtain ⟨hb, c0, c1, c2, c3, c4, s0, s1, fg, r0, fr⟩ := h
  refine ⟨below_drewN (hb.setCell hg _) m, ?_, ?_, ?_, ?_, ?_, ?_, ?_, fun i => ?_, fun i hi => ?_, fun i => ?_⟩
  · rw [World.cell?_drewN, World.cell?_setCell_other _ _ _ _ (by simp)]; exact c0
  · rw [World.cell?_drewN, World.cell?_setCell_other _ _ _ _ (by simp)]; exact c1
  · rw [World.cell?_drewN, World.cell?_setCell_other _ _ _ _ (by simp)]; exact c2
  · rw [World.cell?_drewN, World.cell?_setCell_other _ _ _ _ (by simp)]; exact c3
  · rw [World.cell?_drewN]; exact World.cell?_setCell_same _ _ _ c4
  · rw [World.cell?_drewN, World.cell?_setCell_other _ _ _ _ (fun h => h4 (by cases h))]; exact s0
  · rw [World.cell?_drewN, World.cell?_setCell_other _ _ _ _ (fun h => h4 (by cases h))]; exact s1
  · rw [World.frozen?_drewN]; exact (World.frozen?_setCell _ _ _ _).trans (fg i)
  · rw [World.cell?_drewN, World.cell?_setCell_other _ _ _ _ (fun h => h3 (by cases h; rfl))]; exact r0 i hi
  · rw [World.frozen?_drewN]; exact (World.frozen?_setCell _ _ _ _).trans (fr i)
end
theorem enters32 (args : Array Value) (w : World) : (callFunc 32 args).run Tryz.prog w = .ok (.enter 32 args) w := enters_of Tryz.func32 (by kernel_rfl) rfl args w
theorem enters34 (args : Array Value) (w : World) : (callFunc 34 args).run Tryz.prog w = .ok (.enter 34 args) w := enters_of Tryz.func34 (by kernel_rfl) rfl args w
theorem croots1 {w0 w : World} {s r g : Nat} {sp : Option Addr} {ln cap n : Nat} {X : Nat → Int} {l : Nat} {f K y : Int} (hT : TabW w0) (hv : ∀ ρ w', Ext (fun _ => False) w0 w' → (chA n X l).at ρ w' (.agg #[.int .i64 n, .slice sp ln cap]))
    (h : CW w0 s r g sp ln cap n f K 0 y w) (hg : w0.heap.size ≤ g) (h3 : g ≠ r) (h4 : g ≠ s) (hn0 : 0 < n) (hn : n ≤ 1000) :
    Calls Tryz.prog 31 #[.int .i64 n, .int .i64 0, .func (.func 32) #[] #[.pointer (some ⟨s, 0, none⟩), .pointer (some ⟨g, 0, none⟩)]] w fun e w' => e = .returned (.tuple #[]) ∧ CW w0 s r g sp ln cap n f K (rootS n 0 (cF n X l) n) y w' := by
  refine roots_any _ _ enters32 n 0 w hn0 hn (by omega) (fun a wr => CW w0 s r g sp ln cap n f K (rootS n 0 (cF n X l) a) y wr) h ?_ ?_
  · intro a wr ha hz hI
    have hb := rootS_bd (n := n) (c := 0) (g := cF n X l) (B := 2) (by omega) (fun a => by unfold cF; split <;> omega) a
    have hT' : TabW wr := hT.below hI.hb (tabW_lt hT)
    refine (char1_any s g n X l sp ln cap a _ wr hT' (tabW_lt hT') hI.s0 hI.s1 (fun ρ w' hx => hv ρ w' ((Ext.of_below hI.hb).trans hx)) hI.c3 (hI.fg 3) (by omega) (by omega)).mono ?_
    rintro x w' ⟨rfl, w1, m, hb1, rfl⟩
    refine ⟨rfl, ?_⟩
    rw [rootS, if_pos hz]
    exact (hI.go hb1).set3 hg h3 h4 _ m
  · intro a wr hz hI
    rw [rootS, if_neg hz, Int.add_zero]
    exact hI
theorem croots2 {w0 w : World} {s r g : Nat} {sp : Option Addr} {ln cap n : Nat} {X : Nat → Int} {l : Nat} {f K x : Int} (hT : TabW w0) (hv : ∀ ρ w', Ext (fun _ => False) w0 w' → (chA n X l).at ρ w' (.agg #[.int .i64 n, .slice sp ln cap]))
    (h : CW w0 s r g sp ln cap n f K x 0 w) (hg : w0.heap.size ≤ g) (h3 : g ≠ r) (h4 : g ≠ s) (hn0 : 0 < n) (hn : n ≤ 1000) :
    Calls Tryz.prog 31 #[.int .i64 n, .int .i64 1, .func (.func 34) #[] #[.pointer (some ⟨s, 0, none⟩), .pointer (some ⟨g, 0, none⟩)]] w fun e w' => e = .returned (.tuple #[]) ∧ CW w0 s r g sp ln cap n f K x (rootS n 1 (cT n X l) n) w' := by
  refine roots_any _ _ enters34 n 1 w hn0 hn (by omega) (fun a wr => CW w0 s r g sp ln cap n f K x (rootS n 1 (cT n X l) a) wr) h ?_ ?_
  · intro a wr ha hz hI
    have hb := rootS_bd (n := n) (c := 1) (g := cT n X l) (B := 2) (by omega) (fun a => by unfold cT; split <;> omega) a
    have hT' : TabW wr := hT.below hI.hb (tabW_lt hT)
    refine (char2_any s g n X l sp ln cap a _ wr hT' (tabW_lt hT') hI.s0 hI.s1 (fun ρ w' hx => hv ρ w' ((Ext.of_below hI.hb).trans hx)) hI.c4 (hI.fg 4) (by omega) (by omega)).mono ?_
    rintro x w' ⟨rfl, w1, m, hb1, rfl⟩
    refine ⟨rfl, ?_⟩
    rw [rootS, if_pos hz]
    exact (hI.go hb1).set4 hg h3 h4 _ m
  · intro a wr hz hI
    rw [rootS, if_neg hz, Int.add_zero]
    exact hI
theorem below_calls {f : FuncId} {N : Int} {X : Nat → Int} {l : Nat} {r : AV} {u v : Value} {w : World} (s : Sp CX f [chA N X l] r) (hr : ∀ w' v', r.at (fun _ => undef) w' v' → v' = v) (hT : TabW w) (hv : ∀ ρ w', Ext (fun _ => False) w w' → (chA N X l).at ρ w' u) :
    ∀ w1, Below w.heap.size w w1 → Calls Tryz.prog f #[u] w1 fun e w' => e = .returned v ∧ Below w1.heap.size w1 w' := fun w1 hb => by
  have hT1 : TabW w1 := hT.below hb (tabW_lt hT)
  have hB := tabW_lt hT1
  have hG : ∀ w', Ext (fun _ => False) w1 w' → CX.G w' := fun w' hx j hj => by
    rw [← hT1 j hj]
    simp only [World.cell?, hx.keep _ hB fun h => h]
  refine (s.calls (vs := [u]) hG (fun ρ w' hx => ⟨hv ρ w' ((Ext.of_below hb).trans hx), trivial⟩)).mono ?_
  rintro e w' ⟨v', rfl, hb', hr'⟩
  exact ⟨by rw [hr w' v' (hr' _)], hb'⟩
/-- the memory before the character is looked at -/
def cw0 (w : World) (n : Int) (sp : Option Addr) (ln cap : Nat) (t1 t2 : TypeId) : World := (w.alloc (.cells #[.int .i64 n, .slice sp ln cap] t1)).alloc (.cells #[.int .i64 0, .int .i64 0, .int .i64 0, .int .i64 0, .int .i64 0] t2)
theorem cw0_below (w : World) (n : Int) (sp : Option Addr) (ln cap : Nat) (t1 t2 : TypeId) : Below w.heap.size w (cw0 w n sp ln cap t1 t2) := ((Below.refl _ _).alloc (Nat.le_refl _) _).alloc (by simp) _
theorem cw0_s (w : World) (n : Int) (sp : Option Addr) (ln cap : Nat) (t1 t2 : TypeId) : (cw0 w n sp ln cap t1 t2).cell? ⟨w.heap.size, 0, none⟩ = some (.int .i64 n) ∧ (cw0 w n sp ln cap t1 t2).cell? ⟨w.heap.size, 1, none⟩ = some (.slice sp ln cap) := by
  unfold cw0
  constructor
  · rw [World.cell?_alloc_past _ _ _ (by simp), World.cell?_alloc_at _ _ _ _ rfl]; rfl
  · rw [World.cell?_alloc_past _ _ _ (by simp), World.cell?_alloc_at _ _ _ _ rfl]; rfl
theorem cw0_r (w : World) (n : Int) (sp : Option Addr) (ln cap : Nat) (t1 t2 : TypeId) (i : Nat) (hi : i < 5) : (cw0 w n sp ln cap t1 t2).cell? ⟨w.heap.size + 1, i, none⟩ = some (.int .i64 0) := by
  unfold cw0
  rw [World.cell?_alloc_at _ _ _ _ (by simp)]
  rcases (show i = 0 ∨ i = 1 ∨ i = 2 ∨ i = 3 ∨ i = 4 by omega) with rfl | rfl | rfl | rfl | rfl <;> rfl
theorem cw0_f (w : World) (n : Int) (sp : Option Addr) (ln cap : Nat) (t1 t2 : TypeId) (i : Nat) : (cw0 w n sp ln cap t1 t2).frozen? ⟨w.heap.size + 1, i, none⟩ = false := by
  unfold cw0
  exact World.frozen?_alloc_at _ _ _ _ (by simp)
theorem cw0_size (w : World) (n : Int) (sp : Option Addr) (ln cap : Nat) (t1 t2 : TypeId) : (cw0 w n sp ln cap t1 t2).heap.size = w.heap.size + 2 := by unfold cw0; simp
theorem cw_start {w w2 : World} {n f K : Int} {sp : Option Addr} {ln cap : Nat} {t1 t2 : TypeId} (hb : Below (cw0 w n sp ln cap t1 t2).heap.size (cw0 w n sp ln cap t1 t2) w2) (t3 : TypeId) : CW w w.heap.size (w.heap.size + 1) w2.heap.size sp ln cap n f K 0 0 (w2.alloc (.cells #[.int .i64 n, .int .i64 f, .int .i64 K, .int .i64 0, .int .i64 0] t3)) := by
  have hz := cw0_size w n sp ln cap t1 t2
  have hs := hb.size
  have hl : w.heap.size < (cw0 w n sp ln cap t1 t2).heap.size := by omega
  have hl2 : w.heap.size + 1 < (cw0 w n sp ln cap t1 t2).heap.size := by omega
  have k1 : w.heap.size < w2.heap.size := by omega
  have k2 : w.heap.size + 1 < w2.heap.size := by omega
  refine ⟨((cw0_below w n sp ln cap t1 t2).trans (hb.mono (by omega))).alloc (by omega) _, ?_, ?_, ?_, ?_, ?_, ?_, ?_, fun i => ?_, fun i hi => ?_, fun i => ?_⟩
  · rw [World.cell?_alloc_at _ _ _ _ rfl]; rfl
  · rw [World.cell?_alloc_at _ _ _ _ rfl]; rfl
  · rw [World.cell?_alloc_at _ _ _ _ rfl]; rfl
  · rw [World.cell?_alloc_at _ _ _ _ rfl]; rfl
  · rw [World.cell?_alloc_at _ _ _ _ rfl]; rfl
  · exact (World.cell?_alloc_past _ _ _ k1).trans ((hb.cell hl).trans (cw0_s w n sp ln cap t1 t2).1)
  · exact (World.cell?_alloc_past _ _ _ k1).trans ((hb.cell hl).trans (cw0_s w n sp ln cap t1 t2).2)
  · exact World.frozen?_alloc_at _ _ _ _ rfl
  · exact (World.cell?_alloc_past _ _ _ k2).trans ((hb.cell hl2).trans (cw0_r w n sp ln cap t1 t2 i hi))
  · exact (World.frozen?_alloc_past _ _ _ k2).trans ((hb.frozen hl2).trans (cw0_f w n sp ln cap t1 t2 i))
theorem results_cell_tmp {fn : Func} {a b : Tmp} {t : TypeId} (h : fn.results = #[.cell a t, .tmp b]) {tmps : Array Value} {P : Program} {w : World} {g : Nat} {v : Value} (ha : tmps.getD a undef = .pointer (some ⟨g, 0, none⟩)) (hl : (loadVar t ⟨g, 0, none⟩).run P w = .ok v w) : (results fn tmps).run P w = .ok (.tuple #[v, tmps.getD b undef]) w := by
  have ha' : tmps[a]?.getD undef = .pointer (some ⟨g, 0, none⟩) := by simpa using ha
  simp [results, h, ha', asAddr, hl]
set_option maxHeartbeats 4000000 in
set_option maxRecDepth 100000 in
theorem character_any (n f : Nat) (K : Int) (X : Nat → Int) (l : Nat) (sp : Option Addr) (ln cap : Nat) (t : Bool) (w : World) (hT : TabW w) (hn0 : 1 ≤ n) (hn : n ≤ 60)
    (hv : ∀ ρ w', Ext (fun _ => False) w w' → (chA n X l).at ρ w' (.agg #[.int .i64 n, .slice sp ln cap])) (hk : 2 ≤ K) (hk2 : K ≤ 24) (ht : (K % 2 == 0) = t)
    (c1 : ∀ w1, Below w.heap.size w w1 → Calls Tryz.prog 29 #[.agg #[.int .i64 n, .slice sp ln cap]] w1 fun e w' => e = .returned (.tuple #[.int .i64 f, .int .i64 0]) ∧ Below w1.heap.size w1 w')
    (c2 : ∀ w1, Below w.heap.size w w1 → Calls Tryz.prog 30 #[.agg #[.int .i64 n, .slice sp ln cap]] w1 fun e w' => e = .returned (.tuple #[.bool t, .int .i64 0]) ∧ Below w1.heap.size w1 w') :
    Calls Tryz.prog 14 #[.int .i64 K, .agg #[.int .i64 n, .slice sp ln cap]] w fun e w' => e = .returned (.tuple #[.agg #[.int .i64 n, .int .i64 f, .int .i64 K, .int .i64 (rootS n 0 (cF n X l) n), .int .i64 (rootS n 1 (cT n X l) n)], .int .i64 0]) ∧ Below w.heap.size w w' := by
  have hpar : (!t == (K % 2 == 0)) = false := by rw [ht]; cases t <;> rfl
  have c1' := c1 _ (cw0_below w n sp ln cap 24 38)
  have c2' := fun w1 (hb : Below (cw0 w n sp ln cap 24 38).heap.size (cw0 w n sp ln cap 24 38) w1) => c2 w1 ((cw0_below w n sp ln cap 24 38).trans (hb.mono (by rw [cw0_size]; omega)))
  have r1 := fun w2 (hb : Below (cw0 w n sp ln cap 24 38).heap.size (cw0 w n sp ln cap 24 38) w2) => croots1 (w0 := w) (f := f) (K := K) hT hv (cw_start (w := w) (w2 := w2) (n := n) (f := f) (K := K) (sp := sp) (ln := ln) (cap := cap) (t1 := 24) (t2 := 38) hb 38) (by have := hb.size; rw [cw0_size] at this; omega) (by have := hb.size; rw [cw0_size] at this; omega) (by have := hb.size; rw [cw0_size] at this; omega) hn0 (by omega)
  have r2 := fun (g : Nat) (hg : w.heap.size + 2 ≤ g) (x : Int) (w3 : World) (h : CW w w.heap.size (w.heap.size + 1) g sp ln cap n f K x 0 w3) => croots2 (w0 := w) (s := w.heap.size) (r := w.heap.size + 1) (g := g) (sp := sp) (ln := ln) (cap := cap) (n := n) (X := X) (l := l) (f := f) (K := K) (x := x) (w := w3) hT hv h (by omega) (by omega) (by omega) hn0 (by omega)
  have ss := cw0_s w n sp ln cap 24 38
  have hz := cw0_size w n sp ln cap 24 38
  unfold cw0 at c1' c2' r1 ss hz
  generalize rootS n 0 (cF n X l) n = F at *
  generalize rootS n 1 (cT n X l) n = T at *
  have C1 := Lib.hid c1'
  have C2 := Lib.hid c2'
  have R1 := Lib.hid r1
  have R2 := Lib.hid r2
  have SS := Lib.hid ss
  have HZ := Lib.hid hz
  clear c1 c1' c2 c2' r1 r2 hT hv ss hz hn0 hn
  go_enter Tryz.func14, Tryz.ntmps14
  go_wp2_with (first
    | (go_at_call 29; refine C1.out.mono ?_; rintro e w1 ⟨rfl, hb1⟩; have hw : w.heap.size < w1.heap.size := (by have := hb1.size; have := HZ.out; omega); have s0 := (hb1.cell (show w.heap.size < _ by rw [HZ.out]; omega)).trans SS.out.1; have s1 := (hb1.cell (show w.heap.size < _ by rw [HZ.out]; omega)).trans SS.out.2; have B1 := Lib.hid hb1; clear hb1)
    | (go_at_call 30; refine (C2.out _ B1.out).mono ?_; rintro e w2 ⟨rfl, hb2⟩; have t0 := (hb2.cell hw).trans s0; have ta : ∀ o, (w2.alloc o).cell? ⟨w.heap.size, 0, none⟩ = some (.int .i64 n) := (fun o => (World.cell?_alloc_past _ _ _ (Nat.lt_of_lt_of_le hw hb2.size)).trans t0); have B2 := Lib.hid (B1.out.trans (hb2.mono B1.out.size)); clear hb2 s0 s1 B1 C1)
    | (go_at_call 31; refine (R2.out _ (HZ.out ▸ B2.out.size) _ _ H1.out).mono ?_; rintro x w4 ⟨rfl, h2⟩; clear H1 l0 R1 R2 SS HZ B2 ht hpar; obtain ⟨hb, c0, c1, c2, c3, c4, -, -, -, r, fr⟩ := h2; have r0 := r 0 (by omega); have r1 := r 1 (by omega); have r2 := r 2 (by omega); have r3 := r 3 (by omega); have r4 := r 4 (by omega); have HB := Lib.hid hb; have HR := Lib.hid r; clear hb r)
    | (go_at_call 31; refine (R1.out _ B2.out).mono ?_; rintro x w3 ⟨rfl, h1⟩; have l0 := h1.s0; have H1 := Lib.hid h1; clear h1 t0 ta C2))
  refine bodyPost_ret (results_cell_tmp rfl rfl ((run_loadVar (d := ⟨.struct [(0, 3), (1, 3), (2, 3), (3, 3), (4, 3)], 5, 40, [.int .i64 0, .int .i64 0, .int .i64 0, .int .i64 0, .int .i64 0]⟩) (by kernel_rfl) _ 0 [_, _, _, _, _] _ (cells5 _ _ _ _ _ HR.out) rfl (fun h => by cases h)).trans rfl)) rfl ⟨rfl, ?_⟩
  have hle : w.heap.size ≤ w.heap.size + 1 := by omega
  exact ((((HB.out.setCell hle _).setCell hle _).setCell hle _).setCell hle _).setCell hle _
end Go.Proofs.YtedfcemebdlgfaaGreatDoor
