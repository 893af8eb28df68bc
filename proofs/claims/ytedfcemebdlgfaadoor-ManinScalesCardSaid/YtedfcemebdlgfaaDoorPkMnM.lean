/- Own texts joined: MnM, MnN, MnO. -/
import Derived.Test.YtedfcemebdlgfaaDoorPkMnI
/- manin.wide, manin.times, walked. -/
namespace Go.Proofs.YtedfcemebdlgfaaDoor
open Go Go.RowKit Go.VG HP
def matA (a b c d : Int) : AV := .v (.agg [ix a, ix b, ix c, ix d])
/-- the entries of a matrix are within the limit -/
def MOk (a b c d : Int) : Prop := (-1073741824 ≤ a ∧ a ≤ 1073741824) ∧ (-1073741824 ≤ b ∧ b ≤ 1073741824) ∧ (-1073741824 ≤ c ∧ c ≤ 1073741824) ∧ (-1073741824 ≤ d ∧ d ≤ 1073741824)
instance (a b c d : Int) : Decidable (MOk a b c d) := by unfold MOk; infer_instance
def m4 (a b c d : Int) (j : Nat) : Int := if j = 0 then a else if j = 1 then b else if j = 2 then c else d
theorem MOk_iff {a b c d : Int} : MOk a b c d ↔ ∀ j, j < 4 → -1073741824 ≤ m4 a b c d j ∧ m4 a b c d j ≤ 1073741824 := by
  constructor
  · rintro ⟨h1, h2, h3, h4⟩ j hj
    rcases (show j = 0 ∨ j = 1 ∨ j = 2 ∨ j = 3 by omega) with rfl | rfl | rfl | rfl
    · exact h1
    · exact h2
    · exact h3
    · exact h4
  · intro h
    exact ⟨h 0 (by omega), h 1 (by omega), h 2 (by omega), h 3 (by omega)⟩
set_option maxHeartbeats 8000000 in
set_option maxRecDepth 20000 in
theorem wide_m (a b c d : Int) : Sp CX 55 [matA a b c d] (bool (!decide (MOk a b c d))) := by
  refine fn_sp (C := CX) [] [] tysX_ok mixed Tryd.func55 rfl (by kernel_rfl) Tryd.ntmps55 rfl rfl ?_
  repeat' ((conv => whnf); first | refine Ob.g ?_ | refine WrOb.g ?_ | refine WrOb.u32 ?_ | refine WrOb.u64 ?_ | refine Cases.y ?_ | refine Cases.n ?_ | refine Idx.g rfl ?_ | refine Idx.z rfl ?_ | refine DrawOb.start ?_ | refine TryF.f ?_ | refine TryF.next rfl ?_ | refine TryF.other ?_ | refine TryA.g ?_ | refine TryA.next rfl ?_ | refine TryA.other ?_ | refine TryS.g ?_ | refine TryS.next rfl ?_ | refine TryS.other ?_ | refine TryG.g ?_ | refine TryG.next rfl ?_ | refine TryG.other ?_ | refine TryT.g ?_)
  refine ⟨⟨Nat, fun j => ⟨[(13, matA a b c d), (14, int .i64 j)], [(0, .st [ix a, ix b, ix c, ix d])], 1⟩, fun j => j ≤ 4 ∧ ∀ j', j' < j → -1073741824 ≤ m4 a b c d j' ∧ m4 a b c d j' ≤ 1073741824, fun j => 4 - j, ⟨0, [], ⟨Nat.zero_le _, fun j h => absurd h (Nat.not_lt_zero _)⟩, Ent.g⟩, ?_⟩⟩
  rintro j ⟨h1, h2⟩
  by_cases h4 : j = 4
  · subst h4
    have hm : MOk a b c d := MOk_iff.2 h2
    repeat' ((conv => whnf); first | refine Ob.g ?_ | refine WrOb.g ?_ | refine WrOb.u32 ?_ | refine WrOb.u64 ?_ | refine Cases.y ?_ | refine Cases.n ?_ | refine Idx.g rfl ?_ | refine Idx.z rfl ?_ | refine DrawOb.start ?_ | refine TryF.f ?_ | refine TryF.next rfl ?_ | refine TryF.other ?_ | refine TryA.g ?_ | refine TryA.next rfl ?_ | refine TryA.other ?_ | refine TryS.g ?_ | refine TryS.next rfl ?_ | refine TryS.other ?_ | refine TryG.g ?_ | refine TryG.next rfl ?_ | refine TryG.other ?_ | refine TryT.g ?_)
    refine ⟨⟨_, _, rfl, rfl, ?_⟩⟩
    rw [decide_eq_true hm]
    exact AvLe.refl _
  · obtain ⟨x, hx⟩ : ∃ x, x = m4 a b c d j := ⟨_, rfl⟩
    by_cases ok : -1073741824 ≤ x ∧ x ≤ 1073741824
    · have hn : ∀ j', j' < j + 1 → -1073741824 ≤ m4 a b c d j' ∧ m4 a b c d j' ≤ 1073741824 := fun j' hj' => by
        by_cases e : j' = j
        · rw [e, ← hx]; exact ok
        · exact h2 j' (by omega)
      have hb : 4 - (j + 1) < 4 - j := by omega
      obtain ⟨o1, o2⟩ := ok
      rcases (show j = 0 ∨ j = 1 ∨ j = 2 ∨ j = 3 by omega) with rfl | rfl | rfl | rfl <;>
      ( (first | (obtain rfl : x = a := hx) | (obtain rfl : x = b := hx) | (obtain rfl : x = c := hx) | (obtain rfl : x = d := hx))
        repeat' ((conv => whnf); first | (refine Cases.n ?_ (decide_eq_false (by omega))) | refine Ob.g ?_ | refine WrOb.g ?_ | refine WrOb.u32 ?_ | refine WrOb.u64 ?_ | refine Cases.y ?_ | refine Cases.n ?_ | refine Idx.g rfl ?_ | refine Idx.z rfl ?_ | refine DrawOb.start ?_ | refine TryF.f ?_ | refine TryF.next rfl ?_ | refine TryF.other ?_ | refine TryA.g ?_ | refine TryA.next rfl ?_ | refine TryA.other ?_ | refine TryS.g ?_ | refine TryS.next rfl ?_ | refine TryS.other ?_ | refine TryG.g ?_ | refine TryG.next rfl ?_ | refine TryG.other ?_ | refine TryT.g ?_)
        exact ⟨_, [], ⟨by omega, hn⟩, hb, Ent.g⟩)
    · have hm : ¬ MOk a b c d := fun h => ok (hx ▸ MOk_iff.1 h j (by omega))
      rw [decide_eq_false hm]
      by_cases o1 : x < -1073741824
      · rcases (show j = 0 ∨ j = 1 ∨ j = 2 ∨ j = 3 by omega) with rfl | rfl | rfl | rfl <;>
        ( (first | (obtain rfl : x = a := hx) | (obtain rfl : x = b := hx) | (obtain rfl : x = c := hx) | (obtain rfl : x = d := hx))
          repeat' ((conv => whnf); first | (refine Cases.y ?_ (decide_eq_true (by omega))) | (refine Cases.n ?_ (decide_eq_false (by omega))) | refine Ob.g ?_ | refine WrOb.g ?_ | refine WrOb.u32 ?_ | refine WrOb.u64 ?_ | refine Cases.y ?_ | refine Cases.n ?_ | refine Idx.g rfl ?_ | refine Idx.z rfl ?_ | refine DrawOb.start ?_ | refine TryF.f ?_ | refine TryF.next rfl ?_ | refine TryF.other ?_ | refine TryA.g ?_ | refine TryA.next rfl ?_ | refine TryA.other ?_ | refine TryS.g ?_ | refine TryS.next rfl ?_ | refine TryS.other ?_ | refine TryG.g ?_ | refine TryG.next rfl ?_ | refine TryG.other ?_ | refine TryT.g ?_)
          refine ⟨⟨_, _, rfl, rfl, ?_⟩⟩
          exact AvLe.refl _)
      · have o2 : 1073741824 < x := by omega
        rcases (show j = 0 ∨ j = 1 ∨ j = 2 ∨ j = 3 by omega) with rfl | rfl | rfl | rfl <;>
        ( (first | (obtain rfl : x = a := hx) | (obtain rfl : x = b := hx) | (obtain rfl : x = c := hx) | (obtain rfl : x = d := hx))
          repeat' ((conv => whnf); first | (refine Cases.y ?_ (decide_eq_true (by omega))) | (refine Cases.n ?_ (decide_eq_false (by omega))) | refine Ob.g ?_ | refine WrOb.g ?_ | refine WrOb.u32 ?_ | refine WrOb.u64 ?_ | refine Cases.y ?_ | refine Cases.n ?_ | refine Idx.g rfl ?_ | refine Idx.z rfl ?_ | refine DrawOb.start ?_ | refine TryF.f ?_ | refine TryF.next rfl ?_ | refine TryF.other ?_ | refine TryA.g ?_ | refine TryA.next rfl ?_ | refine TryA.other ?_ | refine TryS.g ?_ | refine TryS.next rfl ?_ | refine TryS.other ?_ | refine TryG.g ?_ | refine TryG.next rfl ?_ | refine TryG.other ?_ | refine TryT.g ?_)
          refine ⟨⟨_, _, rfl, rfl, ?_⟩⟩
          exact AvLe.refl _)
/-- integers, not all made yet -/
def oL : Option Int → Nat → Leaf
  | none, j => getL [.x (.bool false), .x (.slice none 0 0)] j
  | some z, j => zL z j
theorem mk_o (m : Nat) : ∀ i j, i < m → j < 2 → oL ((fun _ : Nat => none) i) j = .x (([.bool false, .slice none 0 0] : List Value).getD j undef) := fun i j _ hj => by
  rcases (show j = 0 ∨ j = 1 by omega) with rfl | rfl <;> rfl
theorem oL_le {H : Nat → Option Int} {Z : Nat → Int} {n : Nat} (h : ∀ j, j < n → H j = some (Z j)) : AvLe (.v (.c (.sl 2 (Option Int) oL H n))) (zsA Z n) :=
  .leaf (.sl fun i j hi _ => by rw [h i hi]; exact .refl _)
set_option maxHeartbeats 16000000 in
set_option maxRecDepth 20000 in
theorem times_sp40 (C : Nat → Int) (q : Nat) (a b : Int) (q0 : 1 ≤ q) (q1 : q ≤ 1000) (hC0 : C q = 0) (hC : ∀ i, i < q → ln (C i).natAbs ≤ 1000) (ha : ln a.natAbs ≤ 1000) (hb : ln b.natAbs ≤ 1000) : Sp CX 77 [zsA C q, zA a, zA b] (zsA (tmp C a b) (q + 1)) := by
  have s0 := Of_sp 0 (by omega) (by omega)
  have l0 : ln (Int.natAbs 0) = 0 := rfl
  have lm : ∀ x y : Int, ln x.natAbs ≤ 1000 → ln y.natAbs ≤ 1000 → ln (x * y).natAbs ≤ 2000 := fun x y hx hy => by
    rw [Int.natAbs_mul]
    have := ln_mul x.natAbs y.natAbs
    omega
  refine fn_sp (C := CX) [] [2] tysX_ok mixed Tryd.func77 rfl (by kernel_rfl) Tryd.ntmps77 rfl rfl ?_
  repeat' ((conv => whnf); first | (refine Ob.mk ⟨rfl, by omega, by decide⟩ ?_) | refine Ob.g ?_ | refine WrOb.g ?_ | refine WrOb.u32 ?_ | refine WrOb.u64 ?_ | refine Cases.y ?_ | refine Cases.n ?_ | refine Idx.g rfl ?_ | refine Idx.z rfl ?_ | refine DrawOb.start ?_ | refine TryF.f ?_ | refine TryF.next rfl ?_ | refine TryF.other ?_ | refine TryA.g ?_ | refine TryA.next rfl ?_ | refine TryA.other ?_ | refine TryS.g ?_ | refine TryS.next rfl ?_ | refine TryS.other ?_ | refine TryG.g ?_ | refine TryG.next rfl ?_ | refine TryG.other ?_ | refine TryT.g ?_)
  refine ⟨⟨Option Int, oL, fun _ => none, q + 1, by push_cast; rfl, mk_o _, ?_⟩⟩
  repeat' ((conv => whnf); first | refine Ob.g ?_ | refine WrOb.g ?_ | refine WrOb.u32 ?_ | refine WrOb.u64 ?_ | refine Cases.y ?_ | refine Cases.n ?_ | refine Idx.g rfl ?_ | refine Idx.z rfl ?_ | refine DrawOb.start ?_ | refine TryF.f ?_ | refine TryF.next rfl ?_ | refine TryF.other ?_ | refine TryA.g ?_ | refine TryA.next rfl ?_ | refine TryA.other ?_ | refine TryS.g ?_ | refine TryS.next rfl ?_ | refine TryS.other ?_ | refine TryG.g ?_ | refine TryG.next rfl ?_ | refine TryG.other ?_ | refine TryT.g ?_)
  refine ⟨⟨Nat × (Nat → Option Int), fun (i, H) => ⟨[(0, zsA C q), (4, .v (.c (.loc 0 0))), (5, .v (.c (.loc 1 0))), (7, .v (.c (.row 2))), (15, int .i64 (q + 1 : Nat)), (16, int .i64 i)], [(2, .rw 2 69 false (Option Int) oL H (q + 1)), (1, .st [.x (.bool (decide (b < 0))), dsL b.natAbs (ln b.natAbs)]), (0, .st [.x (.bool (decide (a < 0))), dsL a.natAbs (ln a.natAbs)])], 3⟩, fun (i, H) => i ≤ q + 1 ∧ ∀ j, j < i → H j = some (tmp C a b j), fun (i, _) => q + 1 - i, ⟨(0, fun _ => none), [], ⟨Nat.zero_le _, fun j hj => absurd hj (Nat.not_lt_zero _)⟩, Ent.g⟩, ?_⟩⟩
  rintro ⟨i, H⟩ ⟨i1, hH⟩
  have hnext : ∀ z, z = tmp C a b i → ∀ j, j < i + 1 → setZ (Option Int) H i (some z) j = some (tmp C a b j) := fun z hz j hj => by
    unfold setZ
    by_cases e : j = i
    · rw [if_pos e, e, hz]
    · rw [if_neg e]; exact hH j (by omega)
  by_cases hi : i < q + 1
  · by_cases h0 : i = 0
    · subst h0
      have s1 := BMul_sp b (C 0) (by omega) (by have := hC 0 q0; omega)
      have s2 := Add_sp 0 (b * C 0) (by omega) (by have := lm b (C 0) hb (hC 0 q0); omega)
      have hn := hnext (0 + b * C 0) (by show _ = b * C 0; omega)
      clear hH hnext
      repeat' ((conv => whnf); first | (refine Idx.mk ⟨0, rfl, by omega, ?_⟩) | refine Ob.g ?_ | refine WrOb.g ?_ | refine WrOb.u32 ?_ | refine WrOb.u64 ?_ | refine Cases.y ?_ | refine Cases.n ?_ | refine Idx.g rfl ?_ | refine Idx.z rfl ?_ | refine DrawOb.start ?_ | refine TryF.f ?_ | refine TryF.next rfl ?_ | refine TryF.other ?_ | refine TryA.g ?_ | refine TryA.next rfl ?_ | refine TryA.other ?_ | refine TryS.g ?_ | refine TryS.next rfl ?_ | refine TryS.other ?_ | refine TryG.g ?_ | refine TryG.next rfl ?_ | refine TryG.other ?_ | refine TryT.g ?_ | refine Sp.g (s0) ?_ | refine Sp.g (s1) ?_ | refine Sp.g (s2) ?_)
      refine ⟨⟨some (0 + b * C 0), rfl, ?_⟩⟩
      repeat' ((conv => whnf); first | refine Ob.g ?_ | refine WrOb.g ?_ | refine WrOb.u32 ?_ | refine WrOb.u64 ?_ | refine Cases.y ?_ | refine Cases.n ?_ | refine Idx.g rfl ?_ | refine Idx.z rfl ?_ | refine DrawOb.start ?_ | refine TryF.f ?_ | refine TryF.next rfl ?_ | refine TryF.other ?_ | refine TryA.g ?_ | refine TryA.next rfl ?_ | refine TryA.other ?_ | refine TryS.g ?_ | refine TryS.next rfl ?_ | refine TryS.other ?_ | refine TryG.g ?_ | refine TryG.next rfl ?_ | refine TryG.other ?_ | refine TryT.g ?_)
      exact ⟨(1, _), [], ⟨by omega, hn⟩, by show q + 1 - 1 < q + 1 - 0; omega, Ent.g⟩
    · obtain ⟨p, rfl⟩ : ∃ p, i = p + 1 := ⟨i - 1, by omega⟩
      have s1 := BMul_sp a (C p) (by omega) (by have := hC p (by omega); omega)
      by_cases hq : p + 1 < q
      · have s2 := BMul_sp b (C (p + 1)) (by omega) (by have := hC (p + 1) hq; omega)
        have s3 := Add_sp (a * C p) (b * C (p + 1)) (by have := lm a (C p) ha (hC p (by omega)); omega) (by have := lm b (C (p + 1)) hb (hC (p + 1) hq); omega)
        have hn := hnext (a * C p + b * C (p + 1)) rfl
        clear hH hnext
        repeat' ((conv => whnf); first | (refine Idx.mk ⟨p, by omega, by omega, ?_⟩) | (refine Idx.mk ⟨p + 1, rfl, by omega, ?_⟩) | refine Ob.g ?_ | refine WrOb.g ?_ | refine WrOb.u32 ?_ | refine WrOb.u64 ?_ | refine Cases.y ?_ | refine Cases.n ?_ | refine Idx.g rfl ?_ | refine Idx.z rfl ?_ | refine DrawOb.start ?_ | refine TryF.f ?_ | refine TryF.next rfl ?_ | refine TryF.other ?_ | refine TryA.g ?_ | refine TryA.next rfl ?_ | refine TryA.other ?_ | refine TryS.g ?_ | refine TryS.next rfl ?_ | refine TryS.other ?_ | refine TryG.g ?_ | refine TryG.next rfl ?_ | refine TryG.other ?_ | refine TryT.g ?_ | refine Sp.g (s0) ?_ | refine Sp.g (s1) ?_ | refine Sp.g (s2) ?_ | refine Sp.g (s3) ?_)
        refine ⟨⟨some (a * C p + b * C (p + 1)), rfl, ?_⟩⟩
        repeat' ((conv => whnf); first | refine Ob.g ?_ | refine WrOb.g ?_ | refine WrOb.u32 ?_ | refine WrOb.u64 ?_ | refine Cases.y ?_ | refine Cases.n ?_ | refine Idx.g rfl ?_ | refine Idx.z rfl ?_ | refine DrawOb.start ?_ | refine TryF.f ?_ | refine TryF.next rfl ?_ | refine TryF.other ?_ | refine TryA.g ?_ | refine TryA.next rfl ?_ | refine TryA.other ?_ | refine TryS.g ?_ | refine TryS.next rfl ?_ | refine TryS.other ?_ | refine TryG.g ?_ | refine TryG.next rfl ?_ | refine TryG.other ?_ | refine TryT.g ?_)
        exact ⟨(p + 1 + 1, _), [], ⟨by omega, hn⟩, by show q + 1 - (p + 1 + 1) < q + 1 - (p + 1); omega, Ent.g⟩
      · obtain rfl : q = p + 1 := by omega
        have hn := hnext (a * C p) (by show _ = a * C p + b * C (p + 1); rw [hC0]; omega)
        clear hH hnext
        repeat' ((conv => whnf); first | (refine Idx.mk ⟨p, by omega, by omega, ?_⟩) | (refine Idx.mk ⟨p + 1, rfl, by omega, ?_⟩) | refine Ob.g ?_ | refine WrOb.g ?_ | refine WrOb.u32 ?_ | refine WrOb.u64 ?_ | refine Cases.y ?_ | refine Cases.n ?_ | refine Idx.g rfl ?_ | refine Idx.z rfl ?_ | refine DrawOb.start ?_ | refine TryF.f ?_ | refine TryF.next rfl ?_ | refine TryF.other ?_ | refine TryA.g ?_ | refine TryA.next rfl ?_ | refine TryA.other ?_ | refine TryS.g ?_ | refine TryS.next rfl ?_ | refine TryS.other ?_ | refine TryG.g ?_ | refine TryG.next rfl ?_ | refine TryG.other ?_ | refine TryT.g ?_ | refine Sp.g (s0) ?_ | refine Sp.g (s1) ?_)
        refine ⟨⟨some (a * C p), rfl, ?_⟩⟩
        repeat' ((conv => whnf); first | refine Ob.g ?_ | refine WrOb.g ?_ | refine WrOb.u32 ?_ | refine WrOb.u64 ?_ | refine Cases.y ?_ | refine Cases.n ?_ | refine Idx.g rfl ?_ | refine Idx.z rfl ?_ | refine DrawOb.start ?_ | refine TryF.f ?_ | refine TryF.next rfl ?_ | refine TryF.other ?_ | refine TryA.g ?_ | refine TryA.next rfl ?_ | refine TryA.other ?_ | refine TryS.g ?_ | refine TryS.next rfl ?_ | refine TryS.other ?_ | refine TryG.g ?_ | refine TryG.next rfl ?_ | refine TryG.other ?_ | refine TryT.g ?_)
        exact ⟨(p + 1 + 1, _), [], ⟨by omega, hn⟩, by show p + 1 + 1 - (p + 1 + 1) < p + 1 + 1 - (p + 1); omega, Ent.g⟩
  · obtain rfl : i = q + 1 := by omega
    clear hnext
    repeat' ((conv => whnf); first | refine Ob.g ?_ | refine WrOb.g ?_ | refine WrOb.u32 ?_ | refine WrOb.u64 ?_ | refine Cases.y ?_ | refine Cases.n ?_ | refine Idx.g rfl ?_ | refine Idx.z rfl ?_ | refine DrawOb.start ?_ | refine TryF.f ?_ | refine TryF.next rfl ?_ | refine TryF.other ?_ | refine TryA.g ?_ | refine TryA.next rfl ?_ | refine TryA.other ?_ | refine TryS.g ?_ | refine TryS.next rfl ?_ | refine TryS.other ?_ | refine TryG.g ?_ | refine TryG.next rfl ?_ | refine TryG.other ?_ | refine TryT.g ?_)
    refine ⟨⟨_, _, rfl, rfl, ?_⟩⟩
    exact oL_le hH
end Go.Proofs.YtedfcemebdlgfaaDoor

/- manin.moved, walked. -/
namespace Go.Proofs.YtedfcemebdlgfaaDoor
open Go Go.RowKit Go.VG HP
theorem tmp_bd {C : Nat → Int} {M A : Nat} {a b : Int} (hC : ∀ k, (C k).natAbs ≤ M) (ha : a.natAbs ≤ A) (hb : b.natAbs ≤ A) (k : Nat) : (tmp C a b k).natAbs ≤ 2 * A * M := by
  have h2 : ∀ x y : Int, x.natAbs ≤ A → y.natAbs ≤ M → (x * y).natAbs ≤ A * M := fun x y h k => by rw [Int.natAbs_mul]; exact Nat.mul_le_mul h k
  have e : 2 * A * M = A * M + A * M := by rw [Nat.mul_assoc, Nat.two_mul]
  cases k with
  | zero => exact Nat.le_trans (h2 _ _ hb (hC 0)) (by omega)
  | succ k =>
    have h := Int.natAbs_add_le (a * C k) (b * C (k + 1))
    have := h2 _ _ ha (hC k)
    have := h2 _ _ hb (hC (k + 1))
    show (a * C k + b * C (k + 1)).natAbs ≤ _
    omega
theorem plm_bd {s : Int} {i : Nat} {a b c d : Int} (hs : s.natAbs ≤ 1) (h : MOk a b c d) : ∀ (w k : Nat), (plm s i a b c d w k).natAbs ≤ 2147483648 ^ w
  | 0, k => by
    show (if k = 0 then s else 0).natAbs ≤ 1
    split
    · exact hs
    · exact Nat.zero_le _
  | w + 1, k => by
    have hC := plm_bd (i := i) hs h w
    obtain ⟨h1, h2, h3, h4⟩ := h
    rw [Nat.pow_succ, Nat.mul_comm]
    show Int.natAbs ((if w < i then tmp (plm s i a b c d w) a b else tmp (plm s i a b c d w) c d) k) ≤ 2 * 1073741824 * 2147483648 ^ w
    split
    · exact tmp_bd hC (show a.natAbs ≤ 1073741824 by omega) (show b.natAbs ≤ 1073741824 by omega) k
    · exact tmp_bd hC (show c.natAbs ≤ 1073741824 by omega) (show d.natAbs ≤ 1073741824 by omega) k
theorem plm_ln {s : Int} {i : Nat} {a b c d : Int} (hs : s.natAbs ≤ 1) (h : MOk a b c d) (w k : Nat) : ln (plm s i a b c d w k).natAbs ≤ w + 1 := by
  apply ln_le
  refine Nat.lt_of_le_of_lt (plm_bd hs h w k) ?_
  rw [Nat.pow_succ]
  have h1 : 2147483648 ^ w ≤ W32 ^ w := Nat.pow_le_pow_left (by decide) w
  have h2 : 0 < W32 ^ w := Nat.pow_pos (by decide)
  have : W32 ^ w * 2 ≤ W32 ^ w * W32 := Nat.mul_le_mul_left _ (by decide)
  omega
/-- the coefficients of a moved symbol -/
def mvZ (n : Nat) (D : Int) (w i j : Nat) (a b c d : Int) (m : Nat) : Int :=
  if m % (pts n).length = pIx n (acP n (pt n j) a b c d) then pSg n D (acP n (pt n j) a b c d) * plm 1 i a b c d w (m / (pts n).length) else 0
theorem mvZ_vS (n : Nat) (D : Int) (w r : Nat) (a b c d : Int) : mvZ n D w (r / (pts n).length) (r % (pts n).length) a b c d = vS n D w r a b c d := rfl
theorem rz_dvd {n : Nat} (hn : 0 < n) (x : Int) : (n : Int) ∣ ((rz n x : Nat) : Int) - x := by
  obtain ⟨q, hq⟩ := rz_sub hn x
  rw [hq]
  exact ⟨-q, by rw [Int.mul_neg]; omega⟩
theorem acP_rz {n : Nat} (hn : 0 < n) (x : Nat) (a b c d : Int) : pr n ((x / n : Nat) * (rz n a : Nat) + (x % n : Nat) * (rz n c : Nat)) ((x / n : Nat) * (rz n b : Nat) + (x % n : Nat) * (rz n d : Nat)) = acP n x a b c d := by
  unfold acP
  apply pr_congr
  · have := Int.dvd_add (Int.dvd_trans (rz_dvd hn a) (Int.dvd_mul_left ((x / n : Nat) : Int) _)) (Int.dvd_trans (rz_dvd hn c) (Int.dvd_mul_left ((x % n : Nat) : Int) _))
    rw [Int.mul_sub, Int.mul_sub] at this
    rwa [show ∀ p q r s : Int, p + q - (r + s) = p - r + (q - s) from fun p q r s => by omega]
  · have := Int.dvd_add (Int.dvd_trans (rz_dvd hn b) (Int.dvd_mul_left ((x / n : Nat) : Int) _)) (Int.dvd_trans (rz_dvd hn d) (Int.dvd_mul_left ((x % n : Nat) : Int) _))
    rw [Int.mul_sub, Int.mul_sub] at this
    rwa [show ∀ p q r s : Int, p + q - (r + s) = p - r + (q - s) from fun p q r s => by omega]
/-- the vector, so far -/
def mvH (L p : Nat) (P : Nat → Int) (k m : Nat) : Int := if m % L = p ∧ m / L < k then P (m / L) else 0
theorem mvH_next {L p : Nat} {P : Nat → Int} {k : Nat} (hp : p < L) (cnt : Nat) {H : Nat → Option Int} (h : ∀ m, m < cnt → H m = some (mvH L p P k m)) : ∀ m, m < cnt → setZ (Option Int) H (k * L + p) (some (P k)) m = some (mvH L p P (k + 1) m) := fun m hm => by
  unfold setZ
  by_cases e : m = k * L + p
  · subst e
    rw [if_pos rfl]
    unfold mvH
    have e1 : (k * L + p) % L = p := by rw [Nat.add_comm, Nat.add_mul_mod_self_right, Nat.mod_eq_of_lt hp]
    have e2 : (k * L + p) / L = k := by rw [Nat.add_comm, Nat.add_mul_div_right _ _ (by omega), Nat.div_eq_of_lt hp, Nat.zero_add]
    rw [if_pos ⟨e1, by omega⟩, e2]
  · rw [if_neg e, h m hm]
    unfold mvH
    congr 1
    by_cases e1 : m % L = p
    · by_cases e2 : m / L < k
      · rw [if_pos ⟨e1, e2⟩, if_pos ⟨e1, by omega⟩]
      · have : m / L ≠ k := fun e3 => e (by
          have := Nat.div_add_mod m L
          rw [Nat.mul_comm, e3, e1] at this
          omega)
        rw [if_neg (fun h => e2 h.2), if_neg (fun h => by have := h.2; omega)]
    · rw [if_neg (fun h => e1 h.1), if_neg (fun h => e1 h.1)]
theorem mvH_end {L p : Nat} {P : Nat → Int} {w m : Nat} (hm : m < (w + 1) * L) : mvH L p P (w + 1) m = if m % L = p then P (m / L) else 0 := by
  unfold mvH
  have h : m / L < w + 1 := Nat.div_lt_of_lt_mul (by rw [Nat.mul_comm]; exact hm)
  by_cases e : m % L = p
  · rw [if_pos ⟨e, h⟩, if_pos e]
  · rw [if_neg (fun h => e h.1), if_neg e]
theorem one_sl {z : Int} {Z : Nat → Int} (hz : Z 0 = z) : AvLe (.v (.c (.sl 2 Nat (fun i j => getL [.x (.bool (decide (z < 0))), dsL z.natAbs (ln z.natAbs)] (i * 2 + j)) id 1))) (zsA Z 1) := .leaf (.sl fun i j hi hj => by
  have hi' : i < 1 := hi
  obtain rfl : i = 0 := by omega
  rw [hz]
  exact one_z 0 j (by omega) hj)
set_option maxHeartbeats 16000000 in
set_option maxRecDepth 20000 in
theorem moved_sp (n i j : Nat) (D : Int) (w : Nat) (a b c d : Int) (n0 : 1 ≤ n) (n1 : n ≤ 120) (hw : w ≤ 22) (hi : i ≤ w) (hj : j < (pts n).length) (hM : MOk a b c d) (hsg : ∀ y, y < n * n → (copB n y = true ∧ (pSg n D y = 1 ∨ pSg n D y = -1)) ∨ (copB n y = false ∧ pSg n D y = 0)) : Sp CX 56 [wA n D w, int .i64 i, int .i64 j, matA a b c d] (zsA (mvZ n D w i j a b c d) ((w + 1) * (pts n).length)) := by
  have s0 := Of_sp 0 (by omega) (by omega)
  have sc := count_sp n D w n0 n1 (by omega)
  have hc := mcnt_le (w := w) n1 hw
  have hl := len_pts n1
  have ra := residue_sp n D w a n0 n1
  have rb := residue_sp n D w b n0 n1
  have rc := residue_sp n D w c n0 n1
  have rd := residue_sp n D w d n0 n1
  have la := rz_lt (show 0 < n by omega) a
  have lb := rz_lt (show 0 < n by omega) b
  have lc := rz_lt (show 0 < n by omega) c
  have ld := rz_lt (show 0 < n by omega) d
  have sat := at_sp n D w ((pt n j / n : Nat) * (rz n a : Nat) + (pt n j % n : Nat) * (rz n c : Nat)) ((pt n j / n : Nat) * (rz n b : Nat) + (pt n j % n : Nat) * (rz n d : Nat)) n0 n1
  rw [acP_rz (by omega)] at sat
  have hy := acP_lt (show 0 < n by omega) (pt n j) a b c d
  have hpt := pt_lt hj
  have hu : 0 ≤ ((pt n j / n : Nat) : Int) ∧ ((pt n j / n : Nat) : Int) ≤ 120 := ⟨Int.natCast_nonneg _, Int.le_trans (Int.le_of_lt (show ((pt n j / n : Nat) : Int) < n by exact_mod_cast Nat.div_lt_of_lt_mul hpt)) (by omega)⟩
  have hv : 0 ≤ ((pt n j % n : Nat) : Int) ∧ ((pt n j % n : Nat) : Int) ≤ 120 := ⟨Int.natCast_nonneg _, Int.le_trans (Int.le_of_lt (show ((pt n j % n : Nat) : Int) < n by exact_mod_cast Nat.mod_lt _ (show n > 0 by omega))) (by omega)⟩
  have pb : ∀ x y : Int, (0 ≤ x ∧ x ≤ 120) → (0 ≤ y ∧ y ≤ 120) → 0 ≤ x * y ∧ x * y ≤ 120 * 120 := fun x y h k => ⟨Int.mul_nonneg h.1 k.1, Int.mul_le_mul h.2 k.2 k.1 (by omega)⟩
  have p1 := pb _ _ hu ⟨Int.natCast_nonneg (rz n a), by omega⟩
  have p2 := pb _ _ hv ⟨Int.natCast_nonneg (rz n c), by omega⟩
  have p3 := pb _ _ hu ⟨Int.natCast_nonneg (rz n b), by omega⟩
  have p4 := pb _ _ hv ⟨Int.natCast_nonneg (rz n d), by omega⟩
  clear pb
  unfold plV at sat
  have hcases := hsg _ hy
  unfold mvZ
  obtain ⟨cnt, ecnt⟩ : ∃ c, c = (w + 1) * (pts n).length := ⟨_, rfl⟩
  rw [← ecnt] at sc hc ⊢
  have hpL : copB n (acP n (pt n j) a b c d) = true → pIx n (acP n (pt n j) a b c d) < (pts n).length := fun h => pIx_lt (by omega) hy h
  generalize acP n (pt n j) a b c d = y at *
  refine fn_sp (C := CX) [] [1] tysX_ok mixed Tryd.func56 rfl (by kernel_rfl) Tryd.ntmps56 rfl rfl ?_
  repeat' ((conv => whnf); first | (refine Ob.mk ⟨rfl, by omega, by decide⟩ ?_) | refine Ob.g ?_ | refine WrOb.g ?_ | refine WrOb.u32 ?_ | refine WrOb.u64 ?_ | refine Cases.y ?_ | refine Cases.n ?_ | refine Idx.g rfl ?_ | refine Idx.z rfl ?_ | refine DrawOb.start ?_ | refine TryF.f ?_ | refine TryF.next rfl ?_ | refine TryF.other ?_ | refine TryA.g ?_ | refine TryA.next rfl ?_ | refine TryA.other ?_ | refine TryS.g ?_ | refine TryS.next rfl ?_ | refine TryS.other ?_ | refine TryG.g ?_ | refine TryG.next rfl ?_ | refine TryG.other ?_ | refine TryT.g ?_ | refine Sp.g (sc) ?_)
  refine ⟨⟨Option Int, oL, fun _ => none, cnt, rfl, mk_o _, ?_⟩⟩
  repeat' ((conv => whnf); first | refine Ob.g ?_ | refine WrOb.g ?_ | refine WrOb.u32 ?_ | refine WrOb.u64 ?_ | refine Cases.y ?_ | refine Cases.n ?_ | refine Idx.g rfl ?_ | refine Idx.z rfl ?_ | refine DrawOb.start ?_ | refine TryF.f ?_ | refine TryF.next rfl ?_ | refine TryF.other ?_ | refine TryA.g ?_ | refine TryA.next rfl ?_ | refine TryA.other ?_ | refine TryS.g ?_ | refine TryS.next rfl ?_ | refine TryS.other ?_ | refine TryG.g ?_ | refine TryG.next rfl ?_ | refine TryG.other ?_ | refine TryT.g ?_)
  refine ⟨⟨Nat × (Nat → Option Int), fun (k, H) => ⟨[(0, wA n D w), (1, int .i64 i), (2, int .i64 j), (7, .v (.c (.loc 0 0))), (9, .v (.c (.row 1))), (26, int .i64 cnt), (27, int .i64 k)], [(1, .rw 2 69 false (Option Int) oL H cnt), (0, .st [ix a, ix b, ix c, ix d])], 2⟩, fun (k, H) => k ≤ cnt ∧ ∀ j, j < k → H j = some 0, fun (k, _) => cnt - k, ⟨(0, fun _ => none), [], ⟨Nat.zero_le _, fun j hj => absurd hj (Nat.not_lt_zero _)⟩, Ent.g⟩, ?_⟩⟩
  rintro ⟨k, H⟩ ⟨k1, hH⟩
  by_cases hk : k < cnt
  · have hn : ∀ j, j < k + 1 → setZ (Option Int) H k (some 0) j = some 0 := fun j hj => by
      unfold setZ
      by_cases e : j = k
      · rw [if_pos e]
      · rw [if_neg e]; exact hH j (by omega)
    clear hH sat hcases hsg
    repeat' ((conv => whnf); first | (refine Idx.mk ⟨k, rfl, by omega, ?_⟩) | refine Ob.g ?_ | refine WrOb.g ?_ | refine WrOb.u32 ?_ | refine WrOb.u64 ?_ | refine Cases.y ?_ | refine Cases.n ?_ | refine Idx.g rfl ?_ | refine Idx.z rfl ?_ | refine DrawOb.start ?_ | refine TryF.f ?_ | refine TryF.next rfl ?_ | refine TryF.other ?_ | refine TryA.g ?_ | refine TryA.next rfl ?_ | refine TryA.other ?_ | refine TryS.g ?_ | refine TryS.next rfl ?_ | refine TryS.other ?_ | refine TryG.g ?_ | refine TryG.next rfl ?_ | refine TryG.other ?_ | refine TryT.g ?_ | refine Sp.g (s0) ?_)
    refine ⟨⟨some 0, rfl, ?_⟩⟩
    repeat' ((conv => whnf); first | refine Ob.g ?_ | refine WrOb.g ?_ | refine WrOb.u32 ?_ | refine WrOb.u64 ?_ | refine Cases.y ?_ | refine Cases.n ?_ | refine Idx.g rfl ?_ | refine Idx.z rfl ?_ | refine DrawOb.start ?_ | refine TryF.f ?_ | refine TryF.next rfl ?_ | refine TryF.other ?_ | refine TryA.g ?_ | refine TryA.next rfl ?_ | refine TryA.other ?_ | refine TryS.g ?_ | refine TryS.next rfl ?_ | refine TryS.other ?_ | refine TryG.g ?_ | refine TryG.next rfl ?_ | refine TryG.other ?_ | refine TryT.g ?_)
    exact ⟨(k + 1, _), [], ⟨hk, hn⟩, by show cnt - (k + 1) < cnt - k; omega, Ent.g⟩
  · obtain rfl : cnt = k := by omega
    rcases hcases with ⟨hcop, hs⟩ | ⟨_, hs⟩
    · have hpl := hpL hcop
      have hne : pSg n D y ≠ 0 := by rcases hs with h | h <;> omega
      have so := Of_sp (pSg n D y) (by rcases hs with h | h <;> omega) (by rcases hs with h | h <;> omega)
      have hsa : (pSg n D y).natAbs ≤ 1 := by rcases hs with h | h <;> rw [h] <;> decide
      have hPl := fun k q => plm_ln (i := i) hsa hM k q
      have soa := Of_sp a (by have := hM.1; omega) (by have := hM.1; omega)
      have sob := Of_sp b (by have := hM.2.1; omega) (by have := hM.2.1; omega)
      have soc := Of_sp c (by have := hM.2.2.1; omega) (by have := hM.2.2.1; omega)
      have sod := Of_sp d (by have := hM.2.2.2; omega) (by have := hM.2.2.2; omega)
      clear hs hsg hcop hpL
      repeat' ((conv => whnf); first | (refine Idx.mk ⟨j, rfl, hj, ?_⟩) | refine Ob.g ?_ | refine WrOb.g ?_ | refine WrOb.u32 ?_ | refine WrOb.u64 ?_ | refine Cases.y ?_ | refine Cases.n ?_ | refine Idx.g rfl ?_ | refine Idx.z rfl ?_ | refine DrawOb.start ?_ | refine TryF.f ?_ | refine TryF.next rfl ?_ | refine TryF.other ?_ | refine TryA.g ?_ | refine TryA.next rfl ?_ | refine TryA.other ?_ | refine TryS.g ?_ | refine TryS.next rfl ?_ | refine TryS.other ?_ | refine TryG.g ?_ | refine TryG.next rfl ?_ | refine TryG.other ?_ | refine TryT.g ?_ | refine Sp.g (ra) ?_ | refine Sp.g (rb) ?_ | refine Sp.g (rc) ?_ | refine Sp.g (rd) ?_ | refine Sp.g (sat) ?_ | refine Sp.g (so) ?_)
      refine ⟨⟨Nat, fun k => ⟨[(0, wA n D w), (1, int .i64 i), (2, int .i64 j), (7, .v (.c (.loc 0 0))), (9, .v (.c (.row 1))), (17, .v (.c (.loc 35 0))), (18, zsA (plm (pSg n D y) i a b c d k) (k + 1)), (19, int .i64 k)], [(35, .st [ix (pIx n y), ix (pSg n D y)]), (1, .rw 2 69 false (Option Int) oL H cnt), (0, .st [ix a, ix b, ix c, ix d])], 36⟩, fun k => k ≤ w, fun k => w - k, ⟨0, [], Nat.zero_le _, by
        refine ⟨?_, ?_, rfl⟩
        · refine TmE.cons (AvLe.refl _) ?_
          refine TmE.cons (AvLe.refl _) ?_
          refine TmE.cons (AvLe.refl _) ?_
          refine TmE.cons (AvLe.refl _) ?_
          refine TmE.cons (AvLe.refl _) ?_
          refine TmE.cons (AvLe.refl _) ?_
          refine TmE.cons (one_sl rfl) ?_
          refine TmE.cons (AvLe.refl _) ?_
          exact TmE.nil
        · repeat (first | exact OwnE.nil | refine OwnE.cons rfl (BlkLe.refl _) ?_)⟩, ?_⟩⟩
      intro k hk
      by_cases hkw : k < w
      · have e1 : plm (pSg n D y) i a b c d (k + 1) = if k < i then tmp (plm (pSg n D y) i a b c d k) a b else tmp (plm (pSg n D y) i a b c d k) c d := rfl
        have hk0 : plm (pSg n D y) i a b c d k (k + 1) = 0 := plm_out _ _ _ _ _ _ _ _ (by omega)
        have hkl : ∀ q, q < k + 1 → ln (plm (pSg n D y) i a b c d k q).natAbs ≤ 1000 := fun q _ => Nat.le_trans (hPl k q) (by omega)
        have hla : ln a.natAbs ≤ 1000 := Nat.le_trans (ln_two (by have := hM.1; omega)) (by omega)
        have hlb : ln b.natAbs ≤ 1000 := Nat.le_trans (ln_two (by have := hM.2.1; omega)) (by omega)
        have hlc : ln c.natAbs ≤ 1000 := Nat.le_trans (ln_two (by have := hM.2.2.1; omega)) (by omega)
        have hld : ln d.natAbs ≤ 1000 := Nat.le_trans (ln_two (by have := hM.2.2.2; omega)) (by omega)
        have st1 := times_sp40 _ (k + 1) a b (by omega) (by omega) hk0 hkl hla hlb
        have st2 := times_sp40 _ (k + 1) c d (by omega) (by omega) hk0 hkl hlc hld
        clear hH hkl hk0 hPl
        by_cases hki : k < i
        · rw [if_pos hki] at e1
          rw [← e1] at st1
          repeat' ((conv => whnf); first | refine Ob.g ?_ | refine WrOb.g ?_ | refine WrOb.u32 ?_ | refine WrOb.u64 ?_ | refine Cases.y ?_ | refine Cases.n ?_ | refine Idx.g rfl ?_ | refine Idx.z rfl ?_ | refine DrawOb.start ?_ | refine TryF.f ?_ | refine TryF.next rfl ?_ | refine TryF.other ?_ | refine TryA.g ?_ | refine TryA.next rfl ?_ | refine TryA.other ?_ | refine TryS.g ?_ | refine TryS.next rfl ?_ | refine TryS.other ?_ | refine TryG.g ?_ | refine TryG.next rfl ?_ | refine TryG.other ?_ | refine TryT.g ?_ | refine Sp.g (soa) ?_ | refine Sp.g (sob) ?_ | refine Sp.g (st1) ?_)
          exact ⟨k + 1, [], by omega, by show w - (k + 1) < w - k; omega, Ent.g⟩
        · rw [if_neg hki] at e1
          rw [← e1] at st2
          repeat' ((conv => whnf); first | refine Ob.g ?_ | refine WrOb.g ?_ | refine WrOb.u32 ?_ | refine WrOb.u64 ?_ | refine Cases.y ?_ | refine Cases.n ?_ | refine Idx.g rfl ?_ | refine Idx.z rfl ?_ | refine DrawOb.start ?_ | refine TryF.f ?_ | refine TryF.next rfl ?_ | refine TryF.other ?_ | refine TryA.g ?_ | refine TryA.next rfl ?_ | refine TryA.other ?_ | refine TryS.g ?_ | refine TryS.next rfl ?_ | refine TryS.other ?_ | refine TryG.g ?_ | refine TryG.next rfl ?_ | refine TryG.other ?_ | refine TryT.g ?_ | refine Sp.g (soc) ?_ | refine Sp.g (sod) ?_ | refine Sp.g (st2) ?_)
          exact ⟨k + 1, [], by omega, by show w - (k + 1) < w - k; omega, Ent.g⟩
      · obtain rfl : k = w := by omega
        clear soa sob soc sod hPl
        repeat' ((conv => whnf); first | refine Ob.g ?_ | refine WrOb.g ?_ | refine WrOb.u32 ?_ | refine WrOb.u64 ?_ | refine Cases.y ?_ | refine Cases.n ?_ | refine Idx.g rfl ?_ | refine Idx.z rfl ?_ | refine DrawOb.start ?_ | refine TryF.f ?_ | refine TryF.next rfl ?_ | refine TryF.other ?_ | refine TryA.g ?_ | refine TryA.next rfl ?_ | refine TryA.other ?_ | refine TryS.g ?_ | refine TryS.next rfl ?_ | refine TryS.other ?_ | refine TryG.g ?_ | refine TryG.next rfl ?_ | refine TryG.other ?_ | refine TryT.g ?_)
        refine ⟨⟨Nat × (Nat → Option Int), fun (q, H) => ⟨[(0, wA n D k), (9, .v (.c (.row 1))), (17, .v (.c (.loc 35 0))), (118, zsA (plm (pSg n D y) i a b c d k) (k + 1)), (119, int .i64 (k + 1 : Nat)), (120, int .i64 q)], [(35, .st [ix (pIx n y), ix (pSg n D y)]), (1, .rw 2 69 false (Option Int) oL H cnt), (0, .st [ix a, ix b, ix c, ix d])], 36⟩, fun (q, H) => q ≤ k + 1 ∧ ∀ m, m < cnt → H m = some (mvH (pts n).length (pIx n y) (plm (pSg n D y) i a b c d k) q m), fun (q, _) => k + 1 - q, ⟨(0, H), [], ⟨Nat.zero_le _, fun m hm => by rw [hH m hm]; unfold mvH; rw [if_neg (fun h => absurd h.2 (Nat.not_lt_zero _))]⟩, Ent.g⟩, ?_⟩⟩
        clear hH
        rintro ⟨q, H⟩ ⟨q1, hH⟩
        by_cases hq : q < k + 1
        · have hn := mvH_next hpl cnt hH
          have hb1 : q * (pts n).length + pIx n y < cnt := by
            have : (q + 1) * (pts n).length ≤ (k + 1) * (pts n).length := Nat.mul_le_mul_right _ hq
            rw [Nat.succ_mul] at this
            omega
          have eq1 : ((q * (pts n).length + pIx n y : Nat) : Int) = (q : Int) * (pts n).length + (pIx n y : Nat) := by rw [Int.natCast_add, Int.natCast_mul]
          have hq0 : 0 ≤ (q : Int) * (pts n).length := Int.mul_nonneg (by omega) (by omega)
          have hq2 : (q : Int) * (pts n).length ≤ 331200 := by omega
          clear hH
          repeat' ((conv => whnf); first | (refine Idx.mk ⟨q, rfl, hq, ?_⟩) | (refine Idx.mk ⟨q * (pts n).length + pIx n y, by omega, hb1, ?_⟩) | refine Ob.g ?_ | refine WrOb.g ?_ | refine WrOb.u32 ?_ | refine WrOb.u64 ?_ | refine Cases.y ?_ | refine Cases.n ?_ | refine Idx.g rfl ?_ | refine Idx.z rfl ?_ | refine DrawOb.start ?_ | refine TryF.f ?_ | refine TryF.next rfl ?_ | refine TryF.other ?_ | refine TryA.g ?_ | refine TryA.next rfl ?_ | refine TryA.other ?_ | refine TryS.g ?_ | refine TryS.next rfl ?_ | refine TryS.other ?_ | refine TryG.g ?_ | refine TryG.next rfl ?_ | refine TryG.other ?_ | refine TryT.g ?_)
          refine ⟨⟨some ((plm (pSg n D y) i a b c d k) q), rfl, ?_⟩⟩
          repeat' ((conv => whnf); first | refine Ob.g ?_ | refine WrOb.g ?_ | refine WrOb.u32 ?_ | refine WrOb.u64 ?_ | refine Cases.y ?_ | refine Cases.n ?_ | refine Idx.g rfl ?_ | refine Idx.z rfl ?_ | refine DrawOb.start ?_ | refine TryF.f ?_ | refine TryF.next rfl ?_ | refine TryF.other ?_ | refine TryA.g ?_ | refine TryA.next rfl ?_ | refine TryA.other ?_ | refine TryS.g ?_ | refine TryS.next rfl ?_ | refine TryS.other ?_ | refine TryG.g ?_ | refine TryG.next rfl ?_ | refine TryG.other ?_ | refine TryT.g ?_)
          exact ⟨(q + 1, _), [], ⟨by omega, hn⟩, by show k + 1 - (q + 1) < k + 1 - q; omega, Ent.g⟩
        · obtain rfl : q = k + 1 := by omega
          repeat' ((conv => whnf); first | refine Ob.g ?_ | refine WrOb.g ?_ | refine WrOb.u32 ?_ | refine WrOb.u64 ?_ | refine Cases.y ?_ | refine Cases.n ?_ | refine Idx.g rfl ?_ | refine Idx.z rfl ?_ | refine DrawOb.start ?_ | refine TryF.f ?_ | refine TryF.next rfl ?_ | refine TryF.other ?_ | refine TryA.g ?_ | refine TryA.next rfl ?_ | refine TryA.other ?_ | refine TryS.g ?_ | refine TryS.next rfl ?_ | refine TryS.other ?_ | refine TryG.g ?_ | refine TryG.next rfl ?_ | refine TryG.other ?_ | refine TryT.g ?_)
          refine ⟨⟨_, _, rfl, rfl, ?_⟩⟩
          refine oL_le fun m hm => ?_
          rw [hH m hm, mvH_end (by rw [← ecnt]; exact hm), plm_mul]
    · rw [hs] at sat
      repeat' ((conv => whnf); first | (refine Idx.mk ⟨j, rfl, hj, ?_⟩) | refine Ob.g ?_ | refine WrOb.g ?_ | refine WrOb.u32 ?_ | refine WrOb.u64 ?_ | refine Cases.y ?_ | refine Cases.n ?_ | refine Idx.g rfl ?_ | refine Idx.z rfl ?_ | refine DrawOb.start ?_ | refine TryF.f ?_ | refine TryF.next rfl ?_ | refine TryF.other ?_ | refine TryA.g ?_ | refine TryA.next rfl ?_ | refine TryA.other ?_ | refine TryS.g ?_ | refine TryS.next rfl ?_ | refine TryS.other ?_ | refine TryG.g ?_ | refine TryG.next rfl ?_ | refine TryG.other ?_ | refine TryT.g ?_ | refine Sp.g (ra) ?_ | refine Sp.g (rb) ?_ | refine Sp.g (rc) ?_ | refine Sp.g (rd) ?_ | refine Sp.g (sat) ?_)
      refine ⟨⟨_, _, rfl, rfl, ?_⟩⟩
      exact oL_le fun m hm => by rw [hH m hm, hs, Int.zero_mul, ite_self]
end Go.Proofs.YtedfcemebdlgfaaDoor

/- manin.Apply, walked. -/
namespace Go.Proofs.YtedfcemebdlgfaaDoor
open Go Go.RowKit Go.VG HP
def noA (e : Int) : AV := .tup [.c (.x (.slice none 0 0)), .c (ix e)]
theorem Apply_bad (L K D r a b c d : Int) (h : dchk L K D ≠ 0) : Sp CX 25 [specA L K D, int .i64 r, matA a b c d] (noA (dchk L K D)) := by
  have s := enter_bad L K D h
  obtain ⟨e, he⟩ : ∃ e, e = dchk L K D := ⟨_, rfl⟩
  rw [← he] at s h ⊢
  refine fn_sp (C := CX) [] [] tysX_ok mixed Tryd.func25 rfl (by kernel_rfl) Tryd.ntmps25 rfl rfl ?_
  repeat' ((conv => whnf); first | refine Ob.g ?_ | refine WrOb.g ?_ | refine WrOb.u32 ?_ | refine WrOb.u64 ?_ | refine Cases.y ?_ | refine Cases.n ?_ | refine Idx.g rfl ?_ | refine Idx.z rfl ?_ | refine DrawOb.start ?_ | refine TryF.f ?_ | refine TryF.next rfl ?_ | refine TryF.other ?_ | refine TryA.g ?_ | refine TryA.next rfl ?_ | refine TryA.other ?_ | refine TryS.g ?_ | refine TryS.next rfl ?_ | refine TryS.other ?_ | refine TryG.g ?_ | refine TryG.next rfl ?_ | refine TryG.other ?_ | refine TryT.g ?_ | refine Sp.g (s) ?_)
  refine ⟨⟨_, _, rfl, rfl, ?_⟩⟩
  exact AvLe.refl _
theorem Apply_out (n k : Nat) (D r a b c d : Int) (h : DOk n k D) (hr : ¬ ((0 ≤ r ∧ r < ((k - 2 + 1) * (pts n).length : Nat)) ∧ MOk a b c d)) : Sp CX 25 [specA n k D, int .i64 r, matA a b c d] (noA 2) := by
  have s := enter_ok n k D h
  have s2 := count_sp n D (k - 2) h.n0 h.n1 (by have := h.k1; omega)
  have s3 := wide_m a b c d
  generalize (k - 2 + 1) * (pts n).length = m at *
  by_cases h0 : r < 0
  · clear hr
    refine fn_sp (C := CX) [] [] tysX_ok mixed Tryd.func25 rfl (by kernel_rfl) Tryd.ntmps25 rfl rfl ?_
    repeat' ((conv => whnf); first | refine Ob.g ?_ | refine WrOb.g ?_ | refine WrOb.u32 ?_ | refine WrOb.u64 ?_ | refine Cases.y ?_ | refine Cases.n ?_ | refine Idx.g rfl ?_ | refine Idx.z rfl ?_ | refine DrawOb.start ?_ | refine TryF.f ?_ | refine TryF.next rfl ?_ | refine TryF.other ?_ | refine TryA.g ?_ | refine TryA.next rfl ?_ | refine TryA.other ?_ | refine TryS.g ?_ | refine TryS.next rfl ?_ | refine TryS.other ?_ | refine TryG.g ?_ | refine TryG.next rfl ?_ | refine TryG.other ?_ | refine TryT.g ?_ | refine Sp.g (s) ?_ | refine Sp.g (s2) ?_)
    refine ⟨⟨_, _, rfl, rfl, ?_⟩⟩
    exact AvLe.refl _
  · by_cases h1 : (m : Int) ≤ r
    · clear hr
      refine fn_sp (C := CX) [] [] tysX_ok mixed Tryd.func25 rfl (by kernel_rfl) Tryd.ntmps25 rfl rfl ?_
      repeat' ((conv => whnf); first | refine Ob.g ?_ | refine WrOb.g ?_ | refine WrOb.u32 ?_ | refine WrOb.u64 ?_ | refine Cases.y ?_ | refine Cases.n ?_ | refine Idx.g rfl ?_ | refine Idx.z rfl ?_ | refine DrawOb.start ?_ | refine TryF.f ?_ | refine TryF.next rfl ?_ | refine TryF.other ?_ | refine TryA.g ?_ | refine TryA.next rfl ?_ | refine TryA.other ?_ | refine TryS.g ?_ | refine TryS.next rfl ?_ | refine TryS.other ?_ | refine TryG.g ?_ | refine TryG.next rfl ?_ | refine TryG.other ?_ | refine TryT.g ?_ | refine Sp.g (s) ?_ | refine Sp.g (s2) ?_)
      refine ⟨⟨_, _, rfl, rfl, ?_⟩⟩
      exact AvLe.refl _
    · have h2 : ¬ MOk a b c d := fun h => hr ⟨by omega, h⟩
      rw [decide_eq_false h2] at s3
      clear hr
      refine fn_sp (C := CX) [] [] tysX_ok mixed Tryd.func25 rfl (by kernel_rfl) Tryd.ntmps25 rfl rfl ?_
      repeat' ((conv => whnf); first | refine Ob.g ?_ | refine WrOb.g ?_ | refine WrOb.u32 ?_ | refine WrOb.u64 ?_ | refine Cases.y ?_ | refine Cases.n ?_ | refine Idx.g rfl ?_ | refine Idx.z rfl ?_ | refine DrawOb.start ?_ | refine TryF.f ?_ | refine TryF.next rfl ?_ | refine TryF.other ?_ | refine TryA.g ?_ | refine TryA.next rfl ?_ | refine TryA.other ?_ | refine TryS.g ?_ | refine TryS.next rfl ?_ | refine TryS.other ?_ | refine TryG.g ?_ | refine TryG.next rfl ?_ | refine TryG.other ?_ | refine TryT.g ?_ | refine Sp.g (s) ?_ | refine Sp.g (s2) ?_ | refine Sp.g (s3) ?_)
      refine ⟨⟨_, _, rfl, rfl, ?_⟩⟩
      exact AvLe.refl _
set_option maxHeartbeats 8000000 in
set_option maxRecDepth 20000 in
theorem Apply_ok (n k r : Nat) (D a b c d : Int) (h : DOk n k D) (hr : r < (k - 2 + 1) * (pts n).length) (hM : MOk a b c d) : Sp CX 25 [specA n k D, int .i64 r, matA a b c d] (.tup [.c (zsL (vS n D (k - 2) r a b c d) ((k - 2 + 1) * (pts n).length)), .c (ix 0)]) := by
  have s := enter_ok n k D h
  have s2 := count_sp n D (k - 2) h.n0 h.n1 (by have := h.k1; omega)
  have s3 := wide_m a b c d
  rw [decide_eq_true hM] at s3
  have hl := len_pts h.n1
  have hl0 : 0 < (pts n).length := Nat.pos_of_ne_zero fun e => by rw [e, Nat.mul_zero] at hr; omega
  have hk1 := h.k1
  have hrl : r / (pts n).length < k - 2 + 1 := Nat.div_lt_of_lt_mul (by rw [Nat.mul_comm]; exact hr)
  have e1 : (r : Int).tmod (pts n).length = ((r % (pts n).length : Nat) : Int) := (Int.ofNat_tmod _ _).symm
  have e2 : (r : Int).tdiv (pts n).length = ((r / (pts n).length : Nat) : Int) := (Int.ofNat_tdiv _ _).symm
  have hj := Nat.mod_lt r hl0
  have s4 := moved_sp n (r / (pts n).length) (r % (pts n).length) D (k - 2) a b c d h.n0 h.n1 (by omega) (by omega) hj hM (fun y hy => pSg_cases h hy)
  rw [mvZ_vS] at s4
  unfold zsA at s4
  rw [← e1, ← e2] at s4
  have hc := mcnt_le (w := k - 2) h.n1 (by omega)
  generalize (k - 2 + 1) * (pts n).length = m at *
  clear e1 e2 hj hrl
  refine fn_sp (C := CX) [] [] tysX_ok mixed Tryd.func25 rfl (by kernel_rfl) Tryd.ntmps25 rfl rfl ?_
  repeat' ((conv => whnf); first | refine Ob.g ?_ | refine WrOb.g ?_ | refine WrOb.u32 ?_ | refine WrOb.u64 ?_ | refine Cases.y ?_ | refine Cases.n ?_ | refine Idx.g rfl ?_ | refine Idx.z rfl ?_ | refine DrawOb.start ?_ | refine TryF.f ?_ | refine TryF.next rfl ?_ | refine TryF.other ?_ | refine TryA.g ?_ | refine TryA.next rfl ?_ | refine TryA.other ?_ | refine TryS.g ?_ | refine TryS.next rfl ?_ | refine TryS.other ?_ | refine TryG.g ?_ | refine TryG.next rfl ?_ | refine TryG.other ?_ | refine TryT.g ?_ | refine Sp.g (s) ?_ | refine Sp.g (s2) ?_ | refine Sp.g (s3) ?_ | refine Sp.g (s4) ?_)
  refine ⟨⟨_, _, rfl, rfl, ?_⟩⟩
  exact AvLe.refl _
end Go.Proofs.YtedfcemebdlgfaaDoor

