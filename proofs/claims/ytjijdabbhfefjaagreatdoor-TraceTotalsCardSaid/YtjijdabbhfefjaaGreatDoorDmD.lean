/- The space of a Spec: walked by hand. -/
import Derived.Test.YtjijdabbhfefjaaGreatDoorPkVgY
import Derived.Test.YtjijdabbhfefjaaGreatDoorDmC
import Derived.Test.YtjijdabbhfefjaaGreatDoorPkNumW
import Derived.Test.YtjijdabbhfefjaaGreatDoorAriG
namespace Go.Proofs.YtjijdabbhfefjaaGreatDoor
open Go Go.RowKit Go.VG HP
structure QW (w0 : World) (s l r g : Nat) (n f K D x y : Int) (w : World) : Prop where
  hb : Below w0.heap.size w0 w
  c0 : w.cell? ⟨g, 0, none⟩ = some (.int .i64 n)
  c1 : w.cell? ⟨g, 1, none⟩ = some (.int .i64 f)
  c2 : w.cell? ⟨g, 2, none⟩ = some (.int .i64 K)
  c3 : w.cell? ⟨g, 3, none⟩ = some (.int .i64 x)
  c4 : w.cell? ⟨g, 4, none⟩ = some (.int .i64 y)
  s2 : w.cell? ⟨s, 2, none⟩ = some (.int .i64 D)
  l0 : w.cell? ⟨l, 0, none⟩ = some (.int .i64 n)
  fg : ∀ i, w.frozen? ⟨g, i, none⟩ = false
  r0 : ∀ i, i < 5 → w.cell? ⟨r, i, none⟩ = some (.int .i64 0)
  fr : ∀ i, w.frozen? ⟨r, i, none⟩ = false
theorem QW.set3 {w0 w : World} {s l r g : Nat} {n f K D x y : Int} (h : QW w0 s l r g n f K D x y w) (hg : w0.heap.size ≤ g) (h3 : g ≠ r) (x' : Int) (m : Nat) : QW w0 s l r g n f K D x' y ((w.setCell ⟨g, 3, none⟩ (.int .i64 x')).drewN m) := by
  obtain ⟨hb, c0, c1, c2, c3, c4, s2, l0, fg, r0, fr⟩ := h
  refine ⟨below_drewN (hb.setCell hg _) m, ?_, ?_, ?_, ?_, ?_, ?_, ?_, fun i => ?_, fun i hi => ?_, fun i => ?_⟩
  · rw [World.cell?_drewN, World.cell?_setCell_other _ _ _ _ (by simp)]; exact c0
  · rw [World.cell?_drewN, World.cell?_setCell_other _ _ _ _ (by simp)]; exact c1
  · rw [World.cell?_drewN, World.cell?_setCell_other _ _ _ _ (by simp)]; exact c2
  · rw [World.cell?_drewN]; exact World.cell?_setCell_same _ _ _ c3
  · rw [World.cell?_drewN, World.cell?_setCell_other _ _ _ _ (by simp)]; exact c4
  · rw [World.cell?_drewN, World.cell?_setCell_other _ _ _ _ (by simp)]; exact s2
  · rw [World.cell?_drewN, World.cell?_setCell_other _ _ _ _ (by simp)]; exact l0
  · rw [World.frozen?_drewN]; exact (World.frozen?_setCell _ _ _ _).trans (fg i)
  · rw [World.cell?_drewN, World.cell?_setCell_other _ _ _ _ (fun h => h3 (by cases h; rfl))]; exact r0 i hi
  · rw [World.frozen?_drewN]; exact (World.frozen?_setCell _ _ _ _).trans (fr i)
theorem QW.set4 {w0 w : World} {s l r g : Nat} {n f K D x y : Int} (h : QW w0 s l r g n f K D x y w) (hg : w0.heap.size ≤ g) (h3 : g ≠ r) (y' : Int) (m : Nat) : QW w0 s l r g n f K D x y' ((w.setCell ⟨g, 4, none⟩ (.int .i64 y')).drewN m) := by
  obtain ⟨hb, c0, c1, c2, c3, c4, s2, l0, fg, r0, fr⟩ := h
  refine ⟨below_drewN (hb.setCell hg _) m, ?_, ?_, ?_, ?_, ?_, ?_, ?_, fun i => ?_, fun i hi => ?_, fun i => ?_⟩
  · rw [World.cell?_drewN, World.cell?_setCell_other _ _ _ _ (by simp)]; exact c0
  · rw [World.cell?_drewN, World.cell?_setCell_other _ _ _ _ (by simp)]; exact c1
  · rw [World.cell?_drewN, World.cell?_setCell_other _ _ _ _ (by simp)]; exact c2
  · rw [World.cell?_drewN, World.cell?_setCell_other _ _ _ _ (by simp)]; exact c3
  · rw [World.cell?_drewN]; exact World.cell?_setCell_same _ _ _ c4
  · rw [World.cell?_drewN, World.cell?_setCell_other _ _ _ _ (by simp)]; exact s2
  · rw [World.cell?_drewN, World.cell?_setCell_other _ _ _ _ (by simp)]; exact l0
  · rw [World.frozen?_drewN]; exact (World.frozen?_setCell _ _ _ _).trans (fg i)
  · rw [World.cell?_drewN, World.cell?_setCell_other _ _ _ _ (fun h => h3 (by cases h; rfl))]; exact r0 i hi
  · rw [World.frozen?_drewN]; exact (World.frozen?_setCell _ _ _ _).trans (fr i)
theorem enters112 (args : Array Value) (w : World) : (callFunc 112 args).run Tryz.prog w = .ok (.enter 112 args) w := enters_of Tryz.func112 (by kernel_rfl) rfl args w
theorem enters113 (args : Array Value) (w : World) : (callFunc 113 args).run Tryz.prog w = .ok (.enter 113 args) w := enters_of Tryz.func113 (by kernel_rfl) rfl args w
theorem tabW_lt {w : World} (h : TabW w) : 0 < w.heap.size := by
  have := h 0 (by omega)
  apply Nat.lt_of_not_le
  intro hle
  unfold World.cell? at this
  simp [Array.getElem?_eq_none hle] at this
theorem roots1 {w0 w : World} {s l r g : Nat} {n : Nat} {f K D y : Int} (hT : TabW w0) (h : QW w0 s l r g n f K D 0 y w) (hg : w0.heap.size ≤ g) (h3 : g ≠ r) (hn0 : 0 < n) (hn : n ≤ 1000) (hD : -1000000 ≤ D) (hD2 : D ≤ 1000000) :
    Calls Tryz.prog 111 #[.int .i64 n, .int .i64 0, .func (.func 112) #[] #[.pointer (some ⟨g, 0, none⟩), .pointer (some ⟨s, 0, none⟩), .pointer (some ⟨l, 0, none⟩)]] w fun e w' => e = .returned (.tuple #[]) ∧ QW w0 s l r g n f K D (rootS n 0 (fun a => kro D ((a : Int) + n)) n) y w' := by
  refine roots_any _ _ enters112 n 0 w hn0 hn (by omega) (fun a wr => QW w0 s l r g n f K D (rootS n 0 (fun a => kro D ((a : Int) + n)) a) y wr) h ?_ ?_
  · intro a wr ha hz hI
    have hb := rootS_bd (n := n) (c := 0) (g := fun a => kro D ((a : Int) + n)) (B := 1) (by omega) (fun a => by rcases kro_tri D ((a : Int) + n) with h | h | h <;> (simp only [h]; omega)) a
    have hT' : TabW wr := hT.below hI.hb (tabW_lt hT)
    refine (quad1_any g s l a n _ D wr hT' hI.c3 (hI.fg 3) hI.s2 hI.l0 (by omega) hn hD hD2 (by omega) (by omega)).mono ?_
    rintro x w' ⟨rfl, m, rfl⟩
    refine ⟨rfl, ?_⟩
    rw [rootS, if_pos hz]
    exact hI.set3 hg h3 _ m
  · intro a wr hz hI
    rw [rootS, if_neg hz, Int.add_zero]
    exact hI
theorem roots2 {w0 w : World} {s l r g : Nat} {n : Nat} {f K D x : Int} (hT : TabW w0) (h : QW w0 s l r g n f K D x 0 w) (hg : w0.heap.size ≤ g) (h3 : g ≠ r) (hn0 : 0 < n) (hn : n ≤ 1000) (hD : -1000000 ≤ D) (hD2 : D ≤ 1000000) :
    Calls Tryz.prog 111 #[.int .i64 n, .int .i64 1, .func (.func 113) #[] #[.pointer (some ⟨g, 0, none⟩), .pointer (some ⟨s, 0, none⟩), .pointer (some ⟨l, 0, none⟩)]] w fun e w' => e = .returned (.tuple #[]) ∧ QW w0 s l r g n f K D x (rootS n 1 (fun a => 2 * kro D ((a : Int) + n)) n) w' := by
  refine roots_any _ _ enters113 n 1 w hn0 hn (by omega) (fun a wr => QW w0 s l r g n f K D x (rootS n 1 (fun a => 2 * kro D ((a : Int) + n)) a) wr) h ?_ ?_
  · intro a wr ha hz hI
    have hb := rootS_bd (n := n) (c := 1) (g := fun a => 2 * kro D ((a : Int) + n)) (B := 2) (by omega) (fun a => by rcases kro_tri D ((a : Int) + n) with h | h | h <;> (simp only [h]; omega)) a
    have hT' : TabW wr := hT.below hI.hb (tabW_lt hT)
    refine (quad2_any g s l a n _ D wr hT' hI.c4 (hI.fg 4) hI.s2 hI.l0 (by omega) hn hD hD2 (by omega) (by omega)).mono ?_
    rintro x w' ⟨rfl, m, rfl⟩
    refine ⟨rfl, ?_⟩
    rw [rootS, if_pos hz]
    exact hI.set4 hg h3 _ m
  · intro a wr hz hI
    rw [rootS, if_neg hz, Int.add_zero]
    exact hI
theorem qw_start (w : World) (L K D n f : Int) (t1 t2 t3 t4 : TypeId) : QW w w.heap.size (w.heap.size + 1) (w.heap.size + 1 + 1) (w.heap.size + 1 + 1 + 1) n f K D 0 0 ((((w.alloc (.cells #[.int .i64 L, .int .i64 K, .int .i64 D] t1)).alloc (.cells #[.int .i64 n] t2)).alloc (.cells #[.int .i64 0, .int .i64 0, .int .i64 0, .int .i64 0, .int .i64 0] t3)).alloc (.cells #[.int .i64 n, .int .i64 f, .int .i64 K, .int .i64 0, .int .i64 0] t4)) := by
  refine ⟨?_, ?_, ?_, ?_, ?_, ?_, ?_, ?_, fun i => ?_, fun i hi => ?_, fun i => ?_⟩
  · exact ((((Below.refl _ _).alloc (Nat.le_refl _) _).alloc (by simp) _).alloc (by simp <;> omega) _).alloc (by simp <;> omega) _
  · rw [World.cell?_alloc_at _ _ _ _ (by simp)]; rfl
  · rw [World.cell?_alloc_at _ _ _ _ (by simp)]; rfl
  · rw [World.cell?_alloc_at _ _ _ _ (by simp)]; rfl
  · rw [World.cell?_alloc_at _ _ _ _ (by simp)]; rfl
  · rw [World.cell?_alloc_at _ _ _ _ (by simp)]; rfl
  · rw [World.cell?_alloc_past _ _ _ (by simp <;> omega), World.cell?_alloc_past _ _ _ (by simp <;> omega), World.cell?_alloc_past _ _ _ (by simp), World.cell?_alloc_at _ _ _ _ rfl]; rfl
  · rw [World.cell?_alloc_past _ _ _ (by simp <;> omega), World.cell?_alloc_past _ _ _ (by simp), World.cell?_alloc_at _ _ _ _ (by simp)]; rfl
  · exact World.frozen?_alloc_at _ _ _ _ (by simp)
  · rw [World.cell?_alloc_past _ _ _ (by simp), World.cell?_alloc_at _ _ _ _ (by simp)]
    rcases (show i = 0 ∨ i = 1 ∨ i = 2 ∨ i = 3 ∨ i = 4 by omega) with rfl | rfl | rfl | rfl | rfl <;> rfl
  · rw [World.frozen?_alloc_past _ _ _ (by simp)]
    exact World.frozen?_alloc_at _ _ _ _ (by simp)
theorem results_cell1 {fn : Func} {a : Tmp} {t : TypeId} (h : fn.results = #[.cell a t]) {tmps : Array Value} {P : Program} {w : World} {g : Nat} {v : Value} (ha : tmps.getD a undef = .pointer (some ⟨g, 0, none⟩)) (hl : (loadVar t ⟨g, 0, none⟩).run P w = .ok v w) : (results fn tmps).run P w = .ok v w := by
  have ha' : tmps[a]?.getD undef = .pointer (some ⟨g, 0, none⟩) := by simpa using ha
  simp [results, h, ha', asAddr, hl]
theorem cells5 {w : World} {r : Nat} {u : Value} (v0 v1 v2 v3 v4 : Value) (h : ∀ i, i < 5 → w.cell? ⟨r, i, none⟩ = some u) (j : Nat) (v : Value) (hj : [v0, v1, v2, v3, v4][j]? = some v) :
    (((((w.setCell ⟨r, 0, none⟩ v0).setCell ⟨r, 1, none⟩ v1).setCell ⟨r, 2, none⟩ v2).setCell ⟨r, 3, none⟩ v3).setCell ⟨r, 4, none⟩ v4).cell? ⟨r, 0 + j, none⟩ = some v := by
  have o : ∀ (W : World) (i k : Nat) (x : Value), i ≠ k → (W.setCell ⟨r, k, none⟩ x).cell? ⟨r, i, none⟩ = W.cell? ⟨r, i, none⟩ := fun W i k x hik => World.cell?_setCell_other _ _ _ _ (fun h => hik (by cases h; rfl))
  rw [Nat.zero_add]
  match j, hj with
  | 0, hj => cases hj; rw [o _ 0 4 _ (by omega), o _ 0 3 _ (by omega), o _ 0 2 _ (by omega), o _ 0 1 _ (by omega)]; exact World.cell?_setCell_same _ _ _ (h 0 (by omega))
  | 1, hj => cases hj; rw [o _ 1 4 _ (by omega), o _ 1 3 _ (by omega), o _ 1 2 _ (by omega)]; exact World.cell?_setCell_same _ _ _ ((o _ 1 0 _ (by omega)).trans (h 1 (by omega)))
  | 2, hj => cases hj; rw [o _ 2 4 _ (by omega), o _ 2 3 _ (by omega)]; exact World.cell?_setCell_same _ _ _ ((o _ 2 1 _ (by omega)).trans ((o _ 2 0 _ (by omega)).trans (h 2 (by omega))))
  | 3, hj => cases hj; rw [o _ 3 4 _ (by omega)]; exact World.cell?_setCell_same _ _ _ ((o _ 3 2 _ (by omega)).trans ((o _ 3 1 _ (by omega)).trans ((o _ 3 0 _ (by omega)).trans (h 3 (by omega)))))
  | 4, hj => cases hj; exact World.cell?_setCell_same _ _ _ ((o _ 4 3 _ (by omega)).trans ((o _ 4 2 _ (by omega)).trans ((o _ 4 1 _ (by omega)).trans ((o _ 4 0 _ (by omega)).trans (h 4 (by omega))))))
  | j + 5, hj => simp at hj
set_option maxHeartbeats 2000000 in
set_option maxRecDepth 100000 in
theorem quadratic_any (L K D : Int) (n : Nat) (w : World) (hT : TabW w) (hn0 : 0 < n) (hn : n ≤ 1000) (hD : -1000000 ≤ D) (hD2 : D ≤ 1000000) :
    Calls Tryz.prog 57 #[.agg #[.int .i64 L, .int .i64 K, .int .i64 D], .int .i64 n] w fun e w' => e = .returned (.agg #[.int .i64 n, .int .i64 (D.natAbs : Nat), .int .i64 K, .int .i64 (rootS n 0 (fun a => kro D ((a : Int) + n)) n), .int .i64 (rootS n 1 (fun a => 2 * kro D ((a : Int) + n)) n)]) ∧ Below w.heap.size w w' := by
  have c1 := fun f => (roots1 (f := f) hT (qw_start w L K D n f 23 3 89 89) (by omega) (by omega) hn0 hn hD hD2)
  have c2 := fun f x w' h => roots2 (f := f) (x := x) (s := w.heap.size) (l := w.heap.size + 1) (r := w.heap.size + 1 + 1) (g := w.heap.size + 1 + 1 + 1) (n := n) (K := K) (D := D) (w := w') hT h (by omega) (by omega) hn0 hn hD hD2
  have e : max D (-D) = (D.natAbs : Nat) := by omega
  generalize rootS n 0 (fun a => kro D ((a : Int) + n)) n = X at *
  generalize rootS n 1 (fun a => 2 * kro D ((a : Int) + n)) n = Y at *
  have C1 := Lib.hid c1
  have C2 := Lib.hid c2
  clear c1 c2 hT hn0
  go_enter Tryz.func57, Tryz.ntmps57
  go_wp2_with (go_at_call 111; first | (refine (C2.out _ _ _ H1.out).mono ?_; rintro x w'' ⟨rfl, h2⟩; clear H1 l0; obtain ⟨hb, c0, c1, c2, c3, c4, -, -, -, r, fr⟩ := h2; have r0 := r 0 (by omega); have r1 := r 1 (by omega); have r2 := r 2 (by omega); have r3 := r 3 (by omega); have r4 := r 4 (by omega); have HB := Lib.hid hb; have HR := Lib.hid r; clear hb r C1 C2 e hn hD hD2) | (refine (C1.out _).mono ?_; rintro x w' ⟨rfl, h1⟩; have l0 := h1.l0; have H1 := Lib.hid h1; clear h1))
  refine bodyPost_ret (results_cell1 rfl rfl ((run_loadVar (d := ⟨.struct [(0, 3), (1, 3), (2, 3), (3, 3), (4, 3)], 5, 40, [.int .i64 0, .int .i64 0, .int .i64 0, .int .i64 0, .int .i64 0]⟩) (by kernel_rfl) _ 0 [_, _, _, _, _] _ (cells5 _ _ _ _ _ HR.out) rfl (fun h => by cases h)).trans rfl)) rfl ⟨rfl, ?_⟩
  have hle : w.heap.size ≤ w.heap.size + 1 + 1 := by omega
  exact ((((HB.out.setCell hle _).setCell hle _).setCell hle _).setCell hle _).setCell hle _
theorem quadratic_sp (L K D : Int) (n : Nat) (h0 : D ≠ 0) (h4 : D % 4 = 0 ∨ D % 4 = 1) (hd : D.natAbs ∣ n) (hn0 : 1 ≤ n) (hn : n ≤ 1000) (hD : -1000000 ≤ D) (hD2 : D ≤ 1000000) : Sp CX 57 [specA L K D, int .i64 n] (spA n (D.natAbs : Nat) K (rootR n 0 (fun a => jac D a) n) (rootR n 1 (fun a => 2 * jac D a) n)) := by
  rw [← four_eq h0 h4 hd hn0, ← three_eq h0 h4 hd hn0]
  refine .of_val (vs0 := [.agg #[.int .i64 L, .int .i64 K, .int .i64 D], .int .i64 n]) (callOk Tryz.func57 (by kernel_rfl) (by kernel_rfl)) rfl (fun ρ w vs h => ?_) (fun _ _ => ⟨[_, _, _, _, _], rfl, ⟨rfl, rfl⟩, ⟨rfl, rfl⟩, ⟨rfl, rfl⟩, ⟨rfl, rfl⟩, ⟨rfl, rfl⟩, trivial⟩) fun w hG => quadratic_any L K D n w hG hn0 hn hD hD2
  match vs, h with
  | [_, _], ⟨⟨cs, rfl, hc⟩, ⟨_, rfl⟩, _⟩ =>
    match cs, hc with
    | [_, _, _], ⟨⟨_, rfl⟩, ⟨_, rfl⟩, ⟨_, rfl⟩, _⟩ => rfl
end Go.Proofs.YtjijdabbhfefjaaGreatDoor
