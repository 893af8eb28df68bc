/- The walk of arith.Crt. -/
import Derived.Test.YtedfcemebdlgfaaGreatDoorAriE
import Derived.Test.YtedfcemebdlgfaaGreatDoorNumA
namespace Go.Proofs.YtedfcemebdlgfaaGreatDoor
open Go.RowKit HP

theorem quiet_left {P : Program} {f : FuncId} {args : Array Value} {w : World} {n : Nat} {v : Value}
    (h : Calls P f args (w.drewN n) fun e w' => e = .returned v ∧ w.drewN n = w') : Calls P f args (w.drewN n) fun e w'' => e = .returned v ∧ ∃ m, w'' = w.drewN m :=
  h.mono fun _ _ ⟨he, hm⟩ => ⟨he, n, hm.symm⟩
theorem quiet_add_left {P : Program} {f : FuncId} {args : Array Value} {w : World} {a n : Nat} {v : Value}
    (h : Calls P f args (w.drewN (a + n)) fun e w' => e = .returned v ∧ w.drewN (a + n) = w') :
    Calls P f args (w.drewN (a + n)) fun e w'' => e = .returned v ∧ ∃ m, w'' = w.drewN (a + m) :=
  h.mono fun _ _ ⟨he, hm⟩ => ⟨he, n, hm.symm⟩

/-- the extended algorithm at two numbers of the range -/
theorem xgcd_pos (M m : Int) (w : World) (h1 : 1 ≤ M) (h2 : M ≤ 2147483647) (h3 : 1 ≤ m) (h4 : m ≤ 2147483647) :
    Calls Tryz.prog 107 #[.int .i64 M, .int .i64 m] w fun x w' => ∃ (v : Int) (n : Nat), x = .returned (.tuple #[.int .i64 (Int.gcd M m), .int .i64 (invM (M / (Int.gcd M m : Int)) (m / (Int.gcd M m : Int))), .int .i64 v, .int .i64 0]) ∧ w' = w.drewN n :=
  (xgcd_any M m w (by omega) h2 (by omega) h4 (by omega)).mono fun x w' ⟨u, hu, hx, n, hn⟩ => by
    have e := xu_inv (by omega) hu
    rw [← e]
    exact ⟨_, n, hx, hn⟩

/-- the cells of a list of congruences -/
def CgrAt (w : World) (b off : Nat) (l : List (Int × Int)) : Prop :=
  ∀ i r m, l[i]? = some (r, m) → w.cell? ⟨b, off + i * 2, none⟩ = some (.int .i64 r) ∧ w.cell? ⟨b, off + i * 2 + 1, none⟩ = some (.int .i64 m)

/-- a result of Crt as the program hands it back -/
def crtVal (r : Except Int (Int × Int)) : Value := .tuple #[.agg #[.int .i64 (crtOut r).1, .int .i64 (crtOut r).2.1], .int .i64 (crtOut r).2.2]

/-- what the rounds of Crt keep in memory: the result's variable, the congruence so far -/
def CrtW (w wr : World) (R M : Int) : Prop :=
  wr.cell? ⟨w.heap.size, 0, none⟩ = some (.int .i64 0) ∧ wr.cell? ⟨w.heap.size, 1, none⟩ = some (.int .i64 0) ∧ wr.frozen? ⟨w.heap.size, 0, none⟩ = false ∧ wr.frozen? ⟨w.heap.size, 1, none⟩ = false ∧
  wr.cell? ⟨w.heap.size + 1, 0, none⟩ = some (.int .i64 R) ∧ wr.cell? ⟨w.heap.size + 1, 1, none⟩ = some (.int .i64 M) ∧ wr.frozen? ⟨w.heap.size + 1, 0, none⟩ = false ∧ wr.frozen? ⟨w.heap.size + 1, 1, none⟩ = false ∧
  Below w.heap.size w wr ∧ w.heap.size + 2 ≤ wr.heap.size
theorem crtW_start (w : World) (t : TypeId) : CrtW w ((w.alloc (.cells #[.int .i64 0, .int .i64 0] t)).alloc (.cells #[.int .i64 0, .int .i64 1] t)) 0 1 := by
  refine ⟨?_, ?_, ?_, ?_, ?_, ?_, ?_, ?_, ((Below.refl _ _).alloc (Nat.le_refl _) _).alloc (by simp) _, by simp⟩
  · rw [World.cell?_alloc_past _ _ _ (by simp), World.cell?_alloc_at _ _ _ _ rfl]; rfl
  · rw [World.cell?_alloc_past _ _ _ (by simp), World.cell?_alloc_at _ _ _ _ rfl]; rfl
  · rw [World.frozen?_alloc_past _ _ _ (by simp)]; exact World.frozen?_alloc_at _ _ _ _ rfl
  · rw [World.frozen?_alloc_past _ _ _ (by simp)]; exact World.frozen?_alloc_at _ _ _ _ rfl
  · rw [World.cell?_alloc_at _ _ _ _ (by simp)]; rfl
  · rw [World.cell?_alloc_at _ _ _ _ (by simp)]; rfl
  · exact World.frozen?_alloc_at _ _ _ _ (by simp)
  · exact World.frozen?_alloc_at _ _ _ _ (by simp)
theorem crtW_alloc {w wr : World} {R M : Int} (h : CrtW w wr R M) (o : Obj) : CrtW w (wr.alloc o) R M := by
  obtain ⟨c1, c2, f1, f2, c3, c4, f3, f4, hb, hs⟩ := h
  have h0 : w.heap.size < wr.heap.size := by omega
  have h1 : w.heap.size + 1 < wr.heap.size := by omega
  refine ⟨?_, ?_, ?_, ?_, ?_, ?_, ?_, ?_, hb.alloc (by omega) _, by simp; omega⟩
  · rw [World.cell?_alloc_past _ _ _ h0]; exact c1
  · rw [World.cell?_alloc_past _ _ _ h0]; exact c2
  · rw [World.frozen?_alloc_past _ _ _ h0]; exact f1
  · rw [World.frozen?_alloc_past _ _ _ h0]; exact f2
  · rw [World.cell?_alloc_past _ _ _ h1]; exact c3
  · rw [World.cell?_alloc_past _ _ _ h1]; exact c4
  · rw [World.frozen?_alloc_past _ _ _ h1]; exact f3
  · rw [World.frozen?_alloc_past _ _ _ h1]; exact f4
theorem crtW_drewN {w wr : World} {R M : Int} (h : CrtW w wr R M) (n : Nat) : CrtW w (wr.drewN n) R M := by
  obtain ⟨c1, c2, f1, f2, c3, c4, f3, f4, hb, hs⟩ := h
  exact ⟨c1, c2, f1, f2, c3, c4, f3, f4, below_drewN hb n, hs⟩
theorem crtW_store {w wr : World} {R M : Int} (h : CrtW w wr R M) (R' M' : Int) : CrtW w ((wr.setCell ⟨w.heap.size + 1, 0, none⟩ (.int .i64 R')).setCell ⟨w.heap.size + 1, 1, none⟩ (.int .i64 M')) R' M' := by
  obtain ⟨c1, c2, f1, f2, c3, c4, f3, f4, hb, hs⟩ := h
  refine ⟨?_, ?_, ?_, ?_, ?_, ?_, ?_, ?_, (hb.setCell (by simp) _).setCell (by simp) _, by simpa [World.setCell] using hs⟩
  · rw [World.cell?_setCell_other _ _ _ _ (by simp), World.cell?_setCell_other _ _ _ _ (by simp)]; exact c1
  · rw [World.cell?_setCell_other _ _ _ _ (by simp), World.cell?_setCell_other _ _ _ _ (by simp)]; exact c2
  · rw [World.frozen?_setCell, World.frozen?_setCell]; exact f1
  · rw [World.frozen?_setCell, World.frozen?_setCell]; exact f2
  · rw [World.cell?_setCell_other _ _ _ _ (by simp)]; exact World.cell?_setCell_same _ _ _ c3
  · exact World.cell?_setCell_same _ _ _ ((World.cell?_setCell_other _ _ _ _ (by simp)).trans c4)
  · rw [World.frozen?_setCell, World.frozen?_setCell]; exact f3
  · rw [World.frozen?_setCell, World.frozen?_setCell]; exact f4

end Go.Proofs.YtedfcemebdlgfaaGreatDoor
