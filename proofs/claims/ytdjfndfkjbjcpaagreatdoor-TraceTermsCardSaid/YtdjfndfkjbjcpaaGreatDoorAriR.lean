/- The walk of arith.Factor: a slice that a closure appends to. -/
import Derived.Test.YtdjfndfkjbjcpaaGreatDoorAriO
import Derived.Test.YtdjfndfkjbjcpaaGreatDoorNumA
import Derived.Test.YtdjfndfkjbjcpaaGreatDoorAriG
import Derived.Test.YtdjfndfkjbjcpaaGreatDoorAriK
namespace Go.Proofs.YtdjfndfkjbjcpaaGreatDoor
open Go.RowKit HP

theorem grown_set (W : World) (b : Nat) (v : Value) : W.grownBy (W.setCell ⟨b, 0, none⟩ v) (some b) :=
  ⟨rfl, rfl, rfl, by simp [World.setCell], fun k _ hne => by
    have hkb : k ≠ b := fun e => hne (by rw [e])
    simp [World.setCell, Array.getElem?_modify, Ne.symm hkb]⟩
def VarW (w : World) (b : Nat) (t : TypeId) (size n : Nat) (cells : List Value) (wr : World) : Prop :=
  ∃ v, wr.cell? ⟨b, 0, none⟩ = some v ∧ wr.frozen? ⟨b, 0, none⟩ = false ∧ wr.ownsRow w.heap.size t size v n cells ∧ v.ownBlock ≠ some b ∧ w.heap.size ≤ b ∧ b < wr.heap.size ∧ Below w.heap.size w wr
theorem varW_store {w wr w1 : World} {b : Nat} {t : TypeId} {size n n' : Nat} {cells cells' : List Value} {v v' : Value} {o : Obj} (hB : w.heap.size ≤ b) (hb : b < wr.heap.size) (hbel : Below w.heap.size w wr) (hc : wr.cell? ⟨b, 0, none⟩ = some v) (hf : wr.frozen? ⟨b, 0, none⟩ = false) (hnb : v.ownBlock ≠ some b)
    (hown : wr.ownsRow w.heap.size t size v n cells) (hown' : w1.ownsRow w.heap.size t size v' n' cells') (hg : (wr.alloc o).grownBy w1 v.ownBlock) (hat : v'.ownBlock = v.ownBlock ∨ v'.ownBlock = some (wr.heap.size + 1)) :
    w1.cell? ⟨b, 0, none⟩ = some v ∧ w1.frozen? ⟨b, 0, none⟩ = false ∧ VarW w b t size n' cells' (w1.setCell ⟨b, 0, none⟩ v') := by
  have hne : some b ≠ v.ownBlock := fun e => hnb e.symm
  have hne' : v'.ownBlock ≠ some b := by
    rcases hat with hat | hat
    · rw [hat]; exact hnb
    · rw [hat]; intro e; have := Option.some.inj e; omega
  have k0 : (wr.alloc o).cell? ⟨b, 0, none⟩ = some v := (World.cell?_alloc_past _ _ _ hb).trans hc
  have k1 : w1.cell? ⟨b, 0, none⟩ = some v := (World.cell?_of_block (hg.block b (by simp; omega) hne)).trans k0
  have k2 : w1.frozen? ⟨b, 0, none⟩ = false := (World.frozen?_of_block (hg.block b (by simp; omega) hne)).trans ((World.frozen?_alloc_past _ _ _ hb).trans hf)
  have hb1 : Below w.heap.size w w1 := (hbel.alloc (by have := hbel.size; omega) o).grown hg (by have := hbel.size; simp; omega) (fun k hk => by have := (hown.lt k hk).1; omega)
  refine ⟨k1, k2, v', World.cell?_setCell_same _ _ _ k1, (World.frozen?_setCell _ _ _ _).trans k2, ?_, hne', hB, ?_, hb1.setCell (by simp; omega) _⟩
  · exact hown'.kept (grown_set w1 b v') (.inr hne')
  · have h1 := hg.size
    have h2 : (w1.setCell ⟨b, 0, none⟩ v').heap.size = w1.heap.size := by simp [World.setCell]
    rw [h2]
    simp at h1
    omega

theorem ownsRow_form {w : World} {base : Nat} {e : TypeId} {size : Nat} {v : Value} {n : Nat} {xs : List Value} (h : w.ownsRow base e size v n xs) (hn : 0 < n) :
    ∃ g cap, v = .slice (some ⟨g, 0, none⟩) n cap := by
  rcases h.2 with ⟨_, h0⟩ | ⟨g, cap, cur, hv, _⟩
  · omega
  · exact ⟨g, cap, hv⟩

end Go.Proofs.YtdjfndfkjbjcpaaGreatDoor
