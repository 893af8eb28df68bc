/- dimension.character: the functions that it hands on, walked by hand. -/
import Derived.Test.YtedfcemebdlgfaaGreatDoorDmC
import Derived.Test.YtedfcemebdlgfaaGreatDoorPkDiE
namespace Go.Proofs.YtedfcemebdlgfaaGreatDoor
open Go Go.RowKit Go.VG HP
/-- what Value answers, as it is seen from a walk by hand -/
theorem value_any (N : Int) (X : Nat → Int) (l : Nat) (a : Int) (u : Value) (w : World) (hT : TabW w) (hB : 0 < w.heap.size) (hv : ∀ ρ w', Ext (fun _ => False) w w' → (chA N X l).at ρ w' u) :
    Calls Tryz.prog 33 #[u, .int .i64 a] w fun e w' => e = .returned (.tuple #[.agg #[.bool (vR N X l a).1.1, .int .i64 (vR N X l a).1.2.1, .int .i64 (vR N X l a).1.2.2], .int .i64 (vR N X l a).2]) ∧ Below w.heap.size w w' := by
  have hG : ∀ w', Ext (fun _ => False) w w' → CX.G w' := fun w' hx j hj => by
    rw [← hT j hj]
    simp only [World.cell?, hx.keep _ hB fun h => h]
  refine ((Value_sp N X l a).calls (vs := [u, .int .i64 a]) hG (fun ρ w' hx => ⟨hv ρ w' hx, ⟨rfl, rfl⟩, trivial⟩)).mono ?_
  rintro e w' ⟨v, rfl, hb, hr⟩
  refine ⟨?_, hb⟩
  obtain ⟨vs, rfl, ht⟩ := hr fun _ => undef
  match vs, ht with
  | [_, _], ⟨⟨cs, rfl, hc⟩, ⟨_, rfl⟩, _⟩ =>
    match cs, hc with
    | [_, _, _], ⟨⟨_, rfl⟩, ⟨_, rfl⟩, ⟨_, rfl⟩, _⟩ => rfl
end Go.Proofs.YtedfcemebdlgfaaGreatDoor
