/- Dirichlet characters: generators, logarithms and checks, walked. -/
import Derived.Test.YtagigjppbabpkaaDoorDiC
import Derived.Test.YtagigjppbabpkaaDoorPkVgU
import Derived.Test.YtagigjppbabpkaaDoorAriG
namespace Go.Proofs.YtagigjppbabpkaaDoor
open Go Go.RowKit Go.VG HP
def cgL (z : Int × Int) (j : Nat) : Leaf := if j = 0 then ix z.1 else ix z.2
theorem cell_lt {w : World} {g o : Nat} {u : Value} (h : w.cell? ⟨g, o, none⟩ = some u) : g < w.heap.size := Nat.lt_of_not_le fun hle => by
  have e : w.heap[g]? = none := by simpa using hle
  simp [World.cell?, e] at h
theorem crt_sp (Z : Nat → Int × Int) (x M : Int) (h : crtOut (crt (0, 1) [Z 0, Z 1]) = (x, M, 0)) : Sp CX 54 [.v (.c (.sl 2 (Int × Int) cgL Z 2))] (.tup [.agg [ix x, ix M], .c (ix 0)]) := by
  refine ⟨callOk Tryd.func54 (by kernel_rfl) (by kernel_rfl), rfl, fun O w vs hO hG hargs => ?_⟩
  have ha := hargs (fun _ => undef) w (Ext.refl _ _)
  match vs, ha with
  | [v], ⟨⟨_, ad, cap, e, hle, hn, hc⟩, _⟩ =>
    subst e
    cases ad with
    | none => exact absurd (hn rfl) (by omega)
    | some ad =>
      obtain ⟨g, off, sp⟩ := ad
      obtain ⟨rfl, hcc⟩ := hc g off sp rfl
      have hcg : CgrAt w g off [Z 0, Z 1] := fun i r m hi => by
        match i, hi with
        | 0, hi =>
          obtain ⟨u, c1, _, c2⟩ := hcc 0 0 (by omega) (by omega)
          obtain ⟨u', d1, _, d2⟩ := hcc 0 1 (by omega) (by omega)
          have hz : Z 0 = (r, m) := by simpa using hi
          have e1 : u = .int .i64 (Z 0).1 := c2 fun _ => undef
          have e2 : u' = .int .i64 (Z 0).2 := d2 fun _ => undef
          rw [hz] at e1 e2
          subst e1 e2
          exact ⟨c1, d1⟩
        | 1, hi =>
          obtain ⟨u, c1, _, c2⟩ := hcc 1 0 (by omega) (by omega)
          obtain ⟨u', d1, _, d2⟩ := hcc 1 1 (by omega) (by omega)
          have hz : Z 1 = (r, m) := by simpa using hi
          have e1 : u = .int .i64 (Z 1).1 := c2 fun _ => undef
          have e2 : u' = .int .i64 (Z 1).2 := d2 fun _ => undef
          rw [hz] at e1 e2
          subst e1 e2
          exact ⟨c1, d1⟩
        | i + 2, hi => simp at hi
      obtain ⟨u, c1, _⟩ := hcc 0 0 (by omega) (by omega)
      refine (crt_any g off 2 cap [Z 0, Z 1] rfl w (cell_lt c1) hcg (by omega)).mono ?_
      rintro en w' ⟨rfl, hb⟩
      refine ⟨_, rfl, hb, fun ρ' w'' _ => ?_⟩
      unfold crtVal
      rw [h]
      exact ⟨[_, _], rfl, ⟨[_, _], rfl, ⟨rfl, rfl⟩, ⟨rfl, rfl⟩, trivial⟩, ⟨rfl, rfl⟩, trivial⟩
theorem dwi_sp (n : Int) : Sp CX 52 [int .i64 n] (bool (decide (1 ≤ n) && decide (n ≤ 60))) := by
  refine fn_sp (C := CX) [] [] tysX_ok mixed Tryd.func52 rfl (by kernel_rfl) Tryd.ntmps52 rfl rfl ?_
  by_cases h1 : 1 ≤ n
  · by_cases h2 : n ≤ 60
    · repeat' ((conv => whnf); first | refine Ob.g ?_ | refine Cases.y ?_ | refine Cases.n ?_ | refine Idx.g rfl ?_ | refine Idx.z rfl ?_ | refine DrawOb.start ?_ | refine TryF.f ?_ | refine TryF.next rfl ?_ | refine TryF.other ?_ | refine TryA.g ?_ | refine TryA.next rfl ?_ | refine TryA.other ?_ | refine TryS.g ?_ | refine TryS.next rfl ?_ | refine TryS.other ?_ | refine TryG.g ?_ | refine TryG.next rfl ?_)
      refine ⟨⟨_, _, rfl, rfl, ?_⟩⟩
      rw [decide_eq_true h1]
      exact AvLe.refl _
    · repeat' ((conv => whnf); first | refine Ob.g ?_ | refine Cases.y ?_ | refine Cases.n ?_ | refine Idx.g rfl ?_ | refine Idx.z rfl ?_ | refine DrawOb.start ?_ | refine TryF.f ?_ | refine TryF.next rfl ?_ | refine TryF.other ?_ | refine TryA.g ?_ | refine TryA.next rfl ?_ | refine TryA.other ?_ | refine TryS.g ?_ | refine TryS.next rfl ?_ | refine TryS.other ?_ | refine TryG.g ?_ | refine TryG.next rfl ?_)
      refine ⟨⟨_, _, rfl, rfl, ?_⟩⟩
      rw [decide_eq_true h1]
      exact AvLe.refl _
  · repeat' ((conv => whnf); first | refine Ob.g ?_ | refine Cases.y ?_ | refine Cases.n ?_ | refine Idx.g rfl ?_ | refine Idx.z rfl ?_ | refine DrawOb.start ?_ | refine TryF.f ?_ | refine TryF.next rfl ?_ | refine TryF.other ?_ | refine TryA.g ?_ | refine TryA.next rfl ?_ | refine TryA.other ?_ | refine TryS.g ?_ | refine TryS.next rfl ?_ | refine TryS.other ?_ | refine TryG.g ?_ | refine TryG.next rfl ?_)
    refine ⟨⟨_, _, rfl, rfl, ?_⟩⟩
    rw [decide_eq_false h1]
    exact AvLe.refl _
theorem dwi_t {n : Nat} (h1 : 1 ≤ n) (h2 : n ≤ 60) : Sp CX 52 [int .i64 n] (bool true) := by
  have := dwi_sp n
  rwa [decide_eq_true (show (1 : Int) ≤ n by omega), decide_eq_true (show (n : Int) ≤ 60 by omega)] at this
theorem dwi_f {n : Int} (h : n < 1 ∨ 60 < n) : Sp CX 52 [int .i64 n] (bool false) := by
  have := dwi_sp n
  have e : (decide (1 ≤ n) && decide (n ≤ 60)) = false := by
    rcases h with h | h
    · rw [decide_eq_false (by omega)]; rfl
    · rw [decide_eq_false (show ¬ n ≤ 60 by omega), Bool.and_false]
  rwa [e] at this
/-- a slice of numbers -/
def nsL (z : Nat) (_ : Nat) : Leaf := ix z
def nsA (Z : Nat → Nat) (n : Nat) : V1 := .c (.sl 1 Nat nsL Z n)
theorem gens_at {n i : Nat} (h : i < np n) : (gens n)[i]? = some (genT n (prtAt n i)) := by
  unfold gens prtAt
  rw [List.getElem?_map, List.getD_eq_getElem?_getD, List.getElem?_eq_getElem h]; rfl
theorem ords_at {n i : Nat} (h : i < np n) : (ords n)[i]? = some (prtAt n i).o := by
  unfold ords prtAt
  rw [List.getElem?_map, List.getD_eq_getElem?_getD, List.getElem?_eq_getElem h]; rfl
theorem prt_z {n : Nat} (hn : n ≤ 60) {i : Nat} (h : i < np n) : PartOk n (prtAt n i) := part_ok hn (prtAt_mem h)
theorem genT_lt {n : Nat} {P : Prt} (h : PartOk n P) : genT n P < n := by
  have h1 := List.mem_of_find?_eq_some h.both
  exact List.mem_range.1 h1
set_option maxHeartbeats 4000000 in
theorem gens_sp (n : Nat) (hn0 : 1 ≤ n) (hn : n ≤ 60) (G O : Nat → Nat) (hG : ∀ i, i < np n → G i = genT n (prtAt n i)) (hO : ∀ i, i < np n → O i = (prtAt n i).o) :
    Sp CX 15 [int .i64 n] (.tup [nsA G (np n), nsA O (np n), .c (ix 0)]) := by
  have s0 := dwi_t hn0 hn
  have s1 := parts_sp n (prtAt n) (np n) (fun i x h => by unfold prtAt; rw [List.getD_eq_getElem?_getD, h]; rfl) rfl hn0 hn
  have hl := np_le hn
  refine fn_sp (C := CX) [] [0,1] tysX_ok mixed Tryd.func15 rfl (by kernel_rfl) Tryd.ntmps15 rfl rfl ?_
  repeat' ((conv => whnf); first | refine Ob.g ?_ | refine Cases.y ?_ | refine Cases.n ?_ | refine Idx.g rfl ?_ | refine Idx.z rfl ?_ | refine DrawOb.start ?_ | refine TryF.f ?_ | refine TryF.next rfl ?_ | refine TryF.other ?_ | refine TryA.g ?_ | refine TryA.next rfl ?_ | refine TryA.other ?_ | refine TryS.g ?_ | refine TryS.next rfl ?_ | refine TryS.other ?_ | refine TryG.g ?_ | refine TryG.next rfl ?_ | refine Sp.g (s0) ?_ | refine Sp.g (s1) ?_)
  refine ⟨⟨Nat, fun i => ⟨[(0, int .i64 n), (5, .v (.c (.row 0))), (6, .v (.c (.row 1))), (15, .v (.c (.sl 3 Prt prtL (prtAt n) (np n)))), (16, int .i64 (np n)), (17, int .i64 i)], [(0, .rw 1 3 false Nat nsL G i), (1, .rw 1 3 false Nat nsL O i)], 2⟩, fun i => i ≤ np n, fun i => np n - i, ⟨0, [.n 5 0 1 3, .n 6 1 1 3], Nat.zero_le _, Ent.g⟩, ?_⟩⟩
  intro i hi
  by_cases hd : i < np n
  · have ok := prt_z hn hd
    have g1 := hG i hd
    have o1 := hO i hd
    have hlt := genT_lt ok
    have h9 := ok.crt
    obtain ⟨q3, q60, ol, o60, r60, rl, dv, _, _, _, _⟩ := ok
    have hdq : ((n : Nat) : Int).tdiv ((prtAt n i).q : Nat) = ((n / (prtAt n i).q : Nat) : Int) := (Int.ofNat_tdiv _ _).symm
    have hdl := Nat.div_le_self n (prtAt n i).q
    rw [← g1] at hlt h9
    have s2 := crt_sp (fun i' => if i' = 0 then (((prtAt n i).r : Int), ((prtAt n i).q : Int)) else (1, ((n / (prtAt n i).q : Nat) : Int))) (G i) n h9
    clear h9 dv
    repeat' ((conv => whnf); first | refine Ob.g ?_ | refine Cases.y ?_ | refine Cases.n ?_ | refine Idx.g rfl ?_ | refine Idx.z rfl ?_ | refine DrawOb.start ?_ | refine TryF.f ?_ | refine TryF.next rfl ?_ | refine TryF.other ?_ | refine TryA.g ?_ | refine TryA.next rfl ?_ | refine TryA.other ?_ | refine TryS.g ?_ | refine TryS.next rfl ?_ | refine TryS.other ?_ | refine TryG.g ?_ | refine TryG.next rfl ?_ | refine Sp.call (s2) (.cons (.leaf (.sl fun i j hi hj => match i, j, hi, hj with | 0, 0, _, _ => .refl _ | 0, 1, _, _ => .refl _ | 1, 0, _, _ => .refl _ | 1, 1, _, _ => .int hdq)) .nil) rfl (AvLe.refl _) ?_)
    refine ⟨⟨fun _ => G i, fun i j hi hj => ?_, fun _ _ _ _ => rfl, ?_⟩⟩
    · obtain rfl : i = 0 := by omega
      obtain rfl : j = 0 := by omega
      exact .refl _
    repeat' ((conv => whnf); first | refine Ob.g ?_ | refine Cases.y ?_ | refine Cases.n ?_ | refine Idx.g rfl ?_ | refine Idx.z rfl ?_ | refine DrawOb.start ?_ | refine TryF.f ?_ | refine TryF.next rfl ?_ | refine TryF.other ?_ | refine TryA.g ?_ | refine TryA.next rfl ?_ | refine TryA.other ?_ | refine TryS.g ?_ | refine TryS.next rfl ?_ | refine TryS.other ?_ | refine TryG.g ?_ | refine TryG.next rfl ?_)
    refine ⟨⟨fun _ => O i, fun i' j hi' hj => ?_, fun _ _ _ _ => rfl, ?_⟩⟩
    · obtain rfl : i' = 0 := by omega
      obtain rfl : j = 0 := by omega
      exact .int (by show (((prtAt n i).o : Nat) : Int) = ((O i : Nat) : Int); rw [o1])
    repeat' ((conv => whnf); first | refine Ob.g ?_ | refine Cases.y ?_ | refine Cases.n ?_ | refine Idx.g rfl ?_ | refine Idx.z rfl ?_ | refine DrawOb.start ?_ | refine TryF.f ?_ | refine TryF.next rfl ?_ | refine TryF.other ?_ | refine TryA.g ?_ | refine TryA.next rfl ?_ | refine TryA.other ?_ | refine TryS.g ?_ | refine TryS.next rfl ?_ | refine TryS.other ?_ | refine TryG.g ?_ | refine TryG.next rfl ?_)
    exact ⟨i + 1, [.r 5 0, .r 6 1], hd, by show np n - (i + 1) < np n - i; omega, by
      refine ⟨?_, .cons rfl (blkLe_appN (c := 1) (fun i hi => by
        obtain rfl : i = 0 := by omega
        rfl) fun _ _ => rfl) (.cons rfl (blkLe_appN (c := 1) (fun i hi => by
        obtain rfl : i = 0 := by omega
        rfl) fun _ _ => rfl) .nil), rfl⟩
      repeat (first | exact TmE.nil | refine TmE.cons (by first | exact AvLe.refl _ | exact AvLe.int (by omega)) ?_)⟩
  · obtain rfl : i = np n := by omega
    repeat' ((conv => whnf); first | refine Ob.g ?_ | refine Cases.y ?_ | refine Cases.n ?_ | refine Idx.g rfl ?_ | refine Idx.z rfl ?_ | refine DrawOb.start ?_ | refine TryF.f ?_ | refine TryF.next rfl ?_ | refine TryF.other ?_ | refine TryA.g ?_ | refine TryA.next rfl ?_ | refine TryA.other ?_ | refine TryS.g ?_ | refine TryS.next rfl ?_ | refine TryS.other ?_ | refine TryG.g ?_ | refine TryG.next rfl ?_)
    refine ⟨⟨_, _, rfl, rfl, ?_⟩⟩
    exact AvLe.refl _
end Go.Proofs.YtagigjppbabpkaaDoor
