/- A slice of the input, opened: what its cells hold, and that they stay. -/
import Derived.Test.YthfnbpnplbbibaaPkDeA
import Derived.Test.YthfnbpnplbbibaaDeC
import Derived.Test.YthfnbpnplbbibaaFrame
import Derived.Deep.Slices
import Derived.Deep.Fields
namespace Go.Proofs.Ythfnbpnplbbibaa
open Go.ChangeShapes Go.WideShapes Go.VG HP

theorem laidOutCh : laidOutB Try.prog = true := by kernel_rfl
theorem dcC0 : Try.prog.cellsOf 3 = 1 := by kernel_rfl
theorem dhas_in {w : World} {a : Addr} {u : Value} (h : w.cell? a = some u) : a.block < w.heap.size :=
  Nat.lt_of_not_le fun hle => by
    have e : w.heap[a.block]? = none := by simpa using hle
    simp [World.cell?, e] at h
theorem dadd_pl (b off i : Nat) : (⟨b, off, none⟩ : Addr).add i = ⟨b, off + i, none⟩ := by
  unfold Addr.add
  split
  · next h => subst h; rfl
  · rfl
theorem i64_zero : I64 0 := ⟨by omega, by omega⟩
set_option maxRecDepth 100000 in
theorem open_ints {H : Type} {enc : TypeId × Value → H} {W : World} {base : Nat} {v : Value} {d : DataW H} {ps : List MemPlace}
    (hval : Value.okWide Try.prog W .any base 59 v) (hd : DataW.Trod enc Try.prog W 0 (fun _ => true) true 59 v d ps) :
    ∃ (R : Nat → Int) (l : Nat), (∀ i, I64 (R i)) ∧ ∀ ρ w', Ext (fun _ => False) W w' → (isA R l).at ρ w' v := by
  obtain ⟨fuel, hf⟩ := hd
  have k1 : Cell.okWide Try.prog W .any base 59 v := by
    simp only [Value.okWide, Try.underlying59] at hval
    exact hval
  have hv : v.cells.toList = [v] := by
    cases v <;> first | rfl | (exfalso; simp [Cell.okWide, Cell.ok, Try.underlying59] at k1)
  rw [hv] at hf
  rcases Go.Deep.open_slice1 Try.underlying59 dcC0 hf with ⟨e1, _⟩ | ⟨a, len, cap, m, n, V, D, Pl, e1, _, hl, _, hm, _, hi⟩
  · simp at e1
    subst e1
    exact ⟨fun _ => 0, 0, fun _ => i64_zero, fun ρ w' _ => ⟨rfl, none, 0, rfl, Nat.le_refl _, fun _ => rfl, (fun g off sp h => by cases h)⟩⟩
  · simp at e1
    subst e1
    have hsp : a.spot = none := by
      simp only [Cell.okWide, Cell.ok, Try.underlying59] at k1
      exact k1.2.2.2.1
    obtain ⟨b, off, sp⟩ := a
    simp only at hsp
    subst hsp
    have hlm : len ≤ m := by rw [hm]; split <;> omega
    have key : ∀ i, ∃ x : Int, I64 x ∧ (i < len → W.cell? ⟨b, off + i, none⟩ = some (.int .i64 x)) := fun i => by
      by_cases h : i < len
      · obtain ⟨h1, h2⟩ := hi i (by omega)
        obtain ⟨x, hx, _, wx⟩ := DataW.trod_int Try.underlying3 h2
        simp at hx
        rw [dadd_pl, hx] at h1
        have bx := bounds_i64 wx
        exact ⟨x, ⟨bx.1, bx.2⟩, fun _ => h1⟩
      · exact ⟨0, i64_zero, fun h' => absurd h' h⟩
    refine ⟨fun i => Classical.choose (key i), len, fun i => (Classical.choose_spec (key i)).1, fun ρ w' hx => ⟨rfl, some ⟨b, off, none⟩, cap, rfl, hl, (fun h => by cases h), fun g o sp h => ?_⟩⟩
    cases h
    refine ⟨rfl, fun i j hi hj => ?_⟩
    obtain rfl : j = 0 := by omega
    have h0 := (Classical.choose_spec (key i)).2 hi
    have hb : b < W.heap.size := dhas_in h0
    refine ⟨_, ?_, rfl, fun _ => rfl⟩
    rw [Nat.mul_one, Nat.add_zero, ← h0]
    simp only [World.cell?, hx.keep b hb (fun h => h)]
end Go.Proofs.Ythfnbpnplbbibaa
