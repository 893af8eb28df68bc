/- The walks of arith.order and arith.Order. -/
import Derived.Test.YteamlpflgfmieaaDoorAriO
import Derived.Test.YteamlpflgfmieaaDoorNumA
import Derived.Test.YteamlpflgfmieaaDoorRefF
namespace Go.Proofs.YteamlpflgfmieaaDoor
open Go.RowKit HP

/-- what the search for an order keeps in memory: the residue, the modulus, the number so far -/
def OrdW (w : World) (b : Nat) (a m : Int) (n : Nat) (wr : World) : Prop :=
  wr.cell? ⟨w.heap.size, 0, none⟩ = some (.int .i64 a) ∧ wr.cell? ⟨w.heap.size + 1, 0, none⟩ = some (.int .i64 m) ∧ wr.cell? ⟨b, 0, none⟩ = some (.int .i64 n) ∧ wr.frozen? ⟨b, 0, none⟩ = false ∧ w.heap.size + 2 ≤ b ∧ Below w.heap.size w wr
theorem ordW_drewN {w wr : World} {b : Nat} {a m : Int} {n : Nat} (h : OrdW w b a m n wr) (k : Nat) : OrdW w b a m n (wr.drewN k) := by
  obtain ⟨h1, h2, h3, h4, h5, h6⟩ := h
  exact ⟨h1, h2, h3, h4, h5, below_drewN h6 k⟩
theorem ordW_store {w wr : World} {b : Nat} {a m : Int} {n : Nat} (h : OrdW w b a m n wr) (n' : Nat) : OrdW w b a m n' (wr.setCell ⟨b, 0, none⟩ (.int .i64 n')) := by
  obtain ⟨h1, h2, h3, h4, h5, h6⟩ := h
  refine ⟨?_, ?_, ?_, ?_, h5, h6.setCell (by simp; omega) _⟩
  · exact (World.cell?_setCell_other _ _ _ _ (by simp <;> omega)).trans h1
  · exact (World.cell?_setCell_other _ _ _ _ (by simp <;> omega)).trans h2
  · exact World.cell?_setCell_same _ _ _ h3
  · exact (World.frozen?_setCell _ _ _ _).trans h4

theorem one_test {a m : Int} {n d : Nat} (hd : IsOrd a m d) : (a ^ n % m != 1 % m) = !decide (d ∣ n) := by
  have h2 := hd.test n
  by_cases h : d ∣ n
  · simp [h, h2.2 h]
  · have : ¬ a ^ n % m = 1 % m := fun h3 => h (h2.1 h3)
    simp [h, this]

/-- the order and the error, as the document has them -/
noncomputable def ordOf (a m : Int) : Nat := open Classical in if h : ∃ d, IsOrd a m d then h.choose else 0
theorem ordOf_eq {a m : Int} {d : Nat} (h : IsOrd a m d) : ordOf a m = d := by
  have hx : ∃ d, IsOrd a m d := ⟨d, h⟩
  unfold ordOf
  rw [dif_pos hx]
  exact hx.choose_spec.unique h
theorem isOrd_emod {a m : Int} {d : Nat} (h : IsOrd a m d) : IsOrd (a % m) m d :=
  ⟨h.1, fun n => ⟨fun h1 => (h.2 n).1 (((Cong.emod m a).pow n).symm.trans h1), fun h1 => ((Cong.emod m a).pow n).trans ((h.2 n).2 h1)⟩⟩

end Go.Proofs.YteamlpflgfmieaaDoor
