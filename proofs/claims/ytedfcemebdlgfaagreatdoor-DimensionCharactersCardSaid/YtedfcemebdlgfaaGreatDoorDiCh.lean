/- A character of the input, opened: what its cells hold, and that they stay. -/
import Derived.Test.YtedfcemebdlgfaaGreatDoorPkDiE
import Derived.Test.YtedfcemebdlgfaaGreatDoorFrame
import Derived.Deep.Slices
import Derived.Deep.Fields
namespace Go.Proofs.YtedfcemebdlgfaaGreatDoor
open Go.ChangeShapes Go.WideShapes Go.VG HP

theorem laidOutCh : laidOutB Tryz.prog = true := by kernel_rfl
theorem chF : ∃ f0 f1 : Field, Tryz.prog.underlying 24 = some (.struct #[f0, f1]) ∧ f0.offset = 0 ∧ f1.offset = 1 ∧ f0.type = 3 ∧ f1.type = 22 :=
  ⟨_, _, Tryz.underlying24, by kernel_rfl, by kernel_rfl, by kernel_rfl, by kernel_rfl⟩
theorem chTs : Tryz.prog.cellTypes Tryz.prog.depth 24 = some [3, 22] := by kernel_rfl
theorem chC : Tryz.prog.cellsOf 24 = 2 := by kernel_rfl
theorem chC0 : Tryz.prog.cellsOf 3 = 1 := by kernel_rfl
theorem chC1 : Tryz.prog.cellsOf 22 = 1 := by kernel_rfl
theorem has_in {w : World} {a : Addr} {u : Value} (h : w.cell? a = some u) : a.block < w.heap.size :=
  Nat.lt_of_not_le fun hle => by
    have e : w.heap[a.block]? = none := by simpa using hle
    simp [World.cell?, e] at h
theorem add_pl (b off i : Nat) : (⟨b, off, none⟩ : Addr).add i = ⟨b, off + i, none⟩ := by
  unfold Addr.add
  split
  · next h => subst h; rfl
  · rfl

set_option maxRecDepth 100000 in
theorem open_chr {H : Type} {enc : TypeId × Value → H} {W : World} {base : Nat} {v : Value} {d : DataW H} {ps : List MemPlace}
    (hval : Value.okWide Tryz.prog W .any base 24 v) (hd : DataW.Trod enc Tryz.prog W 0 (fun _ => true) true 24 v d ps) :
    ∃ (N : Int) (X : Nat → Int) (l : Nat), (Lit.int .i64 N).wf = true ∧ ∀ ρ w', Ext (fun _ => False) W w' → (chA N X l).at ρ w' v := by
  obtain ⟨fuel, hf⟩ := hd
  obtain ⟨f0, f1, hu, o0, o1, t0, t1⟩ := chF
  simp only [Value.okWide, hu] at hval
  obtain ⟨cs, rfl, hcs, ts, hts, _, hcell⟩ := hval
  rw [chTs] at hts
  obtain rfl := Option.some.inj hts
  rw [chC] at hcs
  obtain ⟨cl⟩ := cs
  simp only [List.size_toArray] at hcs
  match cl, hcs with
  | [a0, a1], _ =>
    simp only [Value.cells] at hf
    obtain ⟨xs, n', _, _, _, hxl, hfi⟩ := DataW.trod_struct hu hf
    have g0 := hfi 0 f0 rfl
    have g1 := hfi 1 f1 rfl
    rw [o0, t0, chC0] at g0
    rw [o1, t1, chC1] at g1
    obtain ⟨y0, hy0⟩ : ∃ y, xs[0]? = some y := ⟨xs[0]'(by simp [hxl]), List.getElem?_eq_getElem _⟩
    obtain ⟨y1, hy1⟩ : ∃ y, xs[1]? = some y := ⟨xs[1]'(by simp [hxl]), List.getElem?_eq_getElem _⟩
    obtain ⟨N, e0, _, wN⟩ := DataW.trod_int Tryz.underlying3 (g0.trans hy0)
    have k1 : Cell.okWide Tryz.prog W .any base 22 a1 := by
      obtain ⟨u, hu1, hu2⟩ := hcell 1 a1 rfl
      simp at hu1
      subst hu1
      exact hu2
    simp at e0
    subst e0
    rcases Go.Deep.open_slice1 Tryz.underlying22 chC0 (g1.trans hy1) with ⟨e1, _⟩ | ⟨a, len, cap, m, n, V, D, Pl, e1, _, hl, _, hm, _, hi⟩
    · simp at e1
      subst e1
      exact ⟨N, fun _ => 0, 0, wN, fun ρ w' _ => ⟨[_, _], rfl, ⟨rfl, rfl⟩, ⟨rfl, none, 0, rfl, Nat.le_refl _, fun _ => rfl, (fun g off sp h => by cases h)⟩, trivial⟩⟩
    · simp at e1
      subst e1
      have hsp : a.spot = none := by
        simp only [Cell.okWide, Cell.ok, Tryz.underlying22] at k1
        exact k1.2.2.2.1
      obtain ⟨b, off, sp⟩ := a
      simp only at hsp
      subst hsp
      have hlm : len ≤ m := by rw [hm]; split <;> omega
      have key : ∀ i, ∃ x : Int, i < len → W.cell? ⟨b, off + i, none⟩ = some (.int .i64 x) := fun i => by
        by_cases h : i < len
        · obtain ⟨h1, h2⟩ := hi i (by omega)
          obtain ⟨x, hx, _⟩ := DataW.trod_int Tryz.underlying3 h2
          simp at hx
          rw [add_pl, hx] at h1
          exact ⟨x, fun _ => h1⟩
        · exact ⟨0, fun h' => absurd h' h⟩
      refine ⟨N, fun i => Classical.choose (key i), len, wN, fun ρ w' hx => ⟨[_, _], rfl, ⟨rfl, rfl⟩, ⟨rfl, some ⟨b, off, none⟩, cap, rfl, hl, (fun h => by cases h), fun g o sp h => ?_⟩, trivial⟩⟩
      cases h
      refine ⟨rfl, fun i j hi hj => ?_⟩
      obtain rfl : j = 0 := by omega
      have h0 := Classical.choose_spec (key i) hi
      have hb : b < W.heap.size := has_in h0
      refine ⟨_, ?_, rfl, fun _ => rfl⟩
      rw [Nat.mul_one, Nat.add_zero, ← h0]
      simp only [World.cell?, hx.keep b hb (fun h => h)]
end Go.Proofs.YtedfcemebdlgfaaGreatDoor
