/- Own texts joined: DiJ, DiK, DiL, DiM. -/
import Derived.Test.YtagigjppbabpkaaDoorPkDiE
/- Dirichlet characters: products and conjugates, walked. -/
namespace HP
/-- the conjugate -/
def cjZ (N : Int) (X : Nat → Int) (i : Nat) : Int := ((prtAt N.toNat i).o - X i).tmod (prtAt N.toNat i).o
def mlZ (N : Int) (X Y : Nat → Int) (i : Nat) : Int := (X i + Y i).tmod (prtAt N.toNat i).o
/-- the error of a product -/
def mlE (N : Int) (X : Nat → Int) (l : Nat) (M : Int) (Y : Nat → Int) (m : Nat) : Int := if chkE N X l ≠ 0 then chkE N X l else if chkE M Y m ≠ 0 then chkE M Y m else if N ≠ M then 24 else 0
end HP
namespace Go.Proofs.YtagigjppbabpkaaDoor
open Go Go.RowKit Go.VG HP
def chV (N : Int) (X : Nat → Int) (l : Nat) : V1 := .agg [ix N, xsL X l]
theorem chz_le {X : Nat → Int} {e : Int} : AvLe (.tup [.agg [.x (.int .i64 0), .x (.slice none 0 0)], .c (ix e)]) (.tup [chV 0 X 0, .c (ix e)]) :=
  .tup (.cons (.agg (.cons (.refl _) (.cons .nil .nil))) (.cons (.refl _) .nil))
theorem ch1_le {N : Int} {X Y : Nat → Int} {l m : Nat} {e : Int} (h : ∀ i, i < l → X i = Y i) (hl : l = m) : AvLe (.tup [.agg [ix N, .sl 1 Int xL X l], .c (ix e)]) (.tup [chV N Y m, .c (ix e)]) := by
  subst hl
  exact .tup (.cons (.agg (.cons (.refl _) (.cons (.sl fun i j hi _ => by show LeafLe (ix (X i)) (ix (Y i)); rw [h i hi]; exact .refl _) .nil))) (.cons (.refl _) .nil))
set_option maxHeartbeats 4000000 in
theorem Conj_sp (N : Int) (X : Nat → Int) (l : Nat) : Sp CX 43 [chA N X l] (.tup [if chkE N X l = 0 then chV N (cjZ N X) l else chV 0 X 0, .c (ix (chkE N X l))]) := by
  have s0 := chk_sp N X l
  by_cases hc : chkE N X l = 0
  · obtain ⟨n, rfl, ok⟩ := chk_out hc
    rw [if_pos hc, hc]
    rw [hc] at s0
    clear hc
    obtain ⟨n0, n1, rfl, ex⟩ := ok
    have s1 := parts_sp n (prtAt n) (np n) (fun i x h => by unfold prtAt; rw [List.getD_eq_getElem?_getD, h]; rfl) rfl n0 n1
    have hl := np_le n1
    have hZ : ∀ i, cjZ n X i = ((prtAt n i).o - X i).tmod (prtAt n i).o := fun i => rfl
    generalize cjZ n X = Z at *
    refine fn_sp (C := CX) [] [3] tysX_ok mixed Tryd.func43 rfl (by kernel_rfl) Tryd.ntmps43 rfl rfl ?_
    repeat' ((conv => whnf); first | refine Ob.g ?_ | refine Cases.y ?_ | refine Cases.n ?_ | refine Idx.g rfl ?_ | refine Idx.z rfl ?_ | refine DrawOb.start ?_ | refine TryF.f ?_ | refine TryF.next rfl ?_ | refine TryF.other ?_ | refine TryA.g ?_ | refine TryA.next rfl ?_ | refine TryA.other ?_ | refine TryS.g ?_ | refine TryS.next rfl ?_ | refine TryS.other ?_ | refine TryG.g ?_ | refine TryG.next rfl ?_ | refine Sp.g (s0) ?_ | refine Sp.g (s1) ?_)
    refine ⟨⟨Nat, fun i => ⟨[(1, .v (.c (.loc 0 0))), (2, .v (.c (.loc 1 0))), (5, .v (.c (.loc 2 0))), (19, .v (.c (.sl 3 Prt prtL (prtAt n) (np n)))), (20, int .i64 (np n)), (21, int .i64 i)], [(0, .st [ix n, xsL X (np n)]), (1, .st [ix 0, .x (.slice none 0 0)]), (2, .st [ix n, .row 3]), (3, .rw 1 3 false Int xL Z i)], 4⟩, fun i => i ≤ np n, fun i => np n - i, ⟨0, [.m 2 1 3 1 3], Nat.zero_le _, Ent.g⟩, ?_⟩⟩
    intro i k1
    by_cases hi : i < np n
    · have ok := prt_z n1 hi
      obtain ⟨hXi, hEi⟩ := ex i hi
      have o1 := ok.o1
      have o60 := ok.o60
      have hz := hZ i
      clear hZ ok ex
      repeat' ((conv => whnf); first | refine Ob.g ?_ | refine Cases.y ?_ | refine Cases.n ?_ | refine Idx.g rfl ?_ | refine Idx.z rfl ?_ | refine DrawOb.start ?_ | refine TryF.f ?_ | refine TryF.next rfl ?_ | refine TryF.other ?_ | refine TryA.g ?_ | refine TryA.next rfl ?_ | refine TryA.other ?_ | refine TryS.g ?_ | refine TryS.next rfl ?_ | refine TryS.other ?_ | refine TryG.g ?_ | refine TryG.next rfl ?_)
      refine ⟨⟨fun _ => Z i, fun a j ha hj => ?_, fun _ _ _ _ => rfl, ?_⟩⟩
      · obtain rfl : a = 0 := by omega
        obtain rfl : j = 0 := by omega
        exact .int hz.symm
      repeat' ((conv => whnf); first | refine Ob.g ?_ | refine Cases.y ?_ | refine Cases.n ?_ | refine Idx.g rfl ?_ | refine Idx.z rfl ?_ | refine DrawOb.start ?_ | refine TryF.f ?_ | refine TryF.next rfl ?_ | refine TryF.other ?_ | refine TryA.g ?_ | refine TryA.next rfl ?_ | refine TryA.other ?_ | refine TryS.g ?_ | refine TryS.next rfl ?_ | refine TryS.other ?_ | refine TryG.g ?_ | refine TryG.next rfl ?_)
      exact ⟨i + 1, [.c 2 1 3], hi, by show np n - (i + 1) < np n - i; omega, by
        refine ⟨?_, .cons rfl (.refl _) (.cons rfl (.refl _) (.cons rfl (.refl _) (.cons rfl (blkLe_appN (c := 1) (fun i hi => by
          obtain rfl : i = 0 := by omega
          rfl) fun _ _ => rfl) .nil))), rfl⟩
        repeat (first | exact TmE.nil | refine TmE.cons (by first | exact AvLe.refl _ | exact AvLe.int (by omega)) ?_)⟩
    · obtain rfl : i = np n := by omega
      repeat' ((conv => whnf); first | refine Ob.g ?_ | refine Cases.y ?_ | refine Cases.n ?_ | refine Idx.g rfl ?_ | refine Idx.z rfl ?_ | refine DrawOb.start ?_ | refine TryF.f ?_ | refine TryF.next rfl ?_ | refine TryF.other ?_ | refine TryA.g ?_ | refine TryA.next rfl ?_ | refine TryA.other ?_ | refine TryS.g ?_ | refine TryS.next rfl ?_ | refine TryS.other ?_ | refine TryG.g ?_ | refine TryG.next rfl ?_)
      refine ⟨⟨_, _, rfl, rfl, ?_⟩⟩
      exact ch1_le (fun _ _ => rfl) rfl
  · rw [if_neg hc]
    generalize chkE N X l = e at *
    refine fn_sp (C := CX) [] [] tysX_ok mixed Tryd.func43 rfl (by kernel_rfl) Tryd.ntmps43 rfl rfl ?_
    repeat' ((conv => whnf); first | refine Ob.g ?_ | refine Cases.y ?_ | refine Cases.n ?_ | refine Idx.g rfl ?_ | refine Idx.z rfl ?_ | refine DrawOb.start ?_ | refine TryF.f ?_ | refine TryF.next rfl ?_ | refine TryF.other ?_ | refine TryA.g ?_ | refine TryA.next rfl ?_ | refine TryA.other ?_ | refine TryS.g ?_ | refine TryS.next rfl ?_ | refine TryS.other ?_ | refine TryG.g ?_ | refine TryG.next rfl ?_ | refine Sp.g (s0) ?_)
    refine ⟨⟨_, _, rfl, rfl, ?_⟩⟩
    exact chz_le
set_option maxHeartbeats 4000000 in
theorem Mul_sp (N : Int) (X : Nat → Int) (l : Nat) (M : Int) (Y : Nat → Int) (m : Nat) : Sp CX 42 [chA N X l, chA M Y m] (.tup [if mlE N X l M Y m = 0 then chV N (mlZ N X Y) l else chV 0 X 0, .c (ix (mlE N X l M Y m))]) := by
  have s0 := chk_sp N X l
  have s1 := chk_sp M Y m
  by_cases hc : chkE N X l = 0
  · by_cases hc2 : chkE M Y m = 0
    · rw [hc] at s0
      rw [hc2] at s1
      by_cases hNM : N = M
      · subst hNM
        have e : mlE N X l N Y m = 0 := by unfold mlE; rw [if_neg (fun h => h hc), if_neg (fun h => h hc2), if_neg (fun h => h rfl)]
        rw [e, if_pos rfl]
        obtain ⟨n, rfl, ok⟩ := chk_out hc
        obtain ⟨n', hn', ok2⟩ := chk_out hc2
        obtain rfl : n = n' := by omega
        clear hc hc2 hn' e
        obtain ⟨n0, n1, rfl, ex⟩ := ok
        obtain ⟨_, _, rfl, ey⟩ := ok2
        have s2 := parts_sp n (prtAt n) (np n) (fun i x h => by unfold prtAt; rw [List.getD_eq_getElem?_getD, h]; rfl) rfl n0 n1
        have hl := np_le n1
        have hZ : ∀ i, mlZ n X Y i = (X i + Y i).tmod (prtAt n i).o := fun i => rfl
        generalize mlZ n X Y = Z at *
        refine fn_sp (C := CX) [] [4] tysX_ok mixed Tryd.func42 rfl (by kernel_rfl) Tryd.ntmps42 rfl rfl ?_
        repeat' ((conv => whnf); first | refine Ob.g ?_ | refine Cases.y ?_ | refine Cases.n ?_ | refine Idx.g rfl ?_ | refine Idx.z rfl ?_ | refine DrawOb.start ?_ | refine TryF.f ?_ | refine TryF.next rfl ?_ | refine TryF.other ?_ | refine TryA.g ?_ | refine TryA.next rfl ?_ | refine TryA.other ?_ | refine TryS.g ?_ | refine TryS.next rfl ?_ | refine TryS.other ?_ | refine TryG.g ?_ | refine TryG.next rfl ?_ | refine Sp.g (s0) ?_ | refine Sp.g (s1) ?_ | refine Sp.g (s2) ?_)
        refine ⟨⟨Nat, fun i => ⟨[(2, .v (.c (.loc 0 0))), (3, .v (.c (.loc 1 0))), (4, .v (.c (.loc 2 0))), (8, .v (.c (.loc 3 0))), (34, .v (.c (.sl 3 Prt prtL (prtAt n) (np n)))), (35, int .i64 (np n)), (36, int .i64 i)], [(0, .st [ix n, xsL X (np n)]), (1, .st [ix n, xsL Y (np n)]), (2, .st [ix 0, .x (.slice none 0 0)]), (3, .st [ix n, .row 4]), (4, .rw 1 3 false Int xL Z i)], 5⟩, fun i => i ≤ np n, fun i => np n - i, ⟨0, [.m 3 1 4 1 3], Nat.zero_le _, Ent.g⟩, ?_⟩⟩
        intro i k1
        by_cases hi : i < np n
        · have ok := prt_z n1 hi
          obtain ⟨hXi, hEi⟩ := ex i hi
          obtain ⟨hYi, hFi⟩ := ey i hi
          have o1 := ok.o1
          have o60 := ok.o60
          have hz := hZ i
          clear hZ ok ex ey
          repeat' ((conv => whnf); first | refine Ob.g ?_ | refine Cases.y ?_ | refine Cases.n ?_ | refine Idx.g rfl ?_ | refine Idx.z rfl ?_ | refine DrawOb.start ?_ | refine TryF.f ?_ | refine TryF.next rfl ?_ | refine TryF.other ?_ | refine TryA.g ?_ | refine TryA.next rfl ?_ | refine TryA.other ?_ | refine TryS.g ?_ | refine TryS.next rfl ?_ | refine TryS.other ?_ | refine TryG.g ?_ | refine TryG.next rfl ?_)
          refine ⟨⟨fun _ => Z i, fun a j ha hj => ?_, fun _ _ _ _ => rfl, ?_⟩⟩
          · obtain rfl : a = 0 := by omega
            obtain rfl : j = 0 := by omega
            exact .int hz.symm
          repeat' ((conv => whnf); first | refine Ob.g ?_ | refine Cases.y ?_ | refine Cases.n ?_ | refine Idx.g rfl ?_ | refine Idx.z rfl ?_ | refine DrawOb.start ?_ | refine TryF.f ?_ | refine TryF.next rfl ?_ | refine TryF.other ?_ | refine TryA.g ?_ | refine TryA.next rfl ?_ | refine TryA.other ?_ | refine TryS.g ?_ | refine TryS.next rfl ?_ | refine TryS.other ?_ | refine TryG.g ?_ | refine TryG.next rfl ?_)
          exact ⟨i + 1, [.c 3 1 4], hi, by show np n - (i + 1) < np n - i; omega, by
            refine ⟨?_, .cons rfl (.refl _) (.cons rfl (.refl _) (.cons rfl (.refl _) (.cons rfl (.refl _) (.cons rfl (blkLe_appN (c := 1) (fun i hi => by
              obtain rfl : i = 0 := by omega
              rfl) fun _ _ => rfl) .nil)))), rfl⟩
            repeat (first | exact TmE.nil | refine TmE.cons (by first | exact AvLe.refl _ | exact AvLe.int (by omega)) ?_)⟩
        · obtain rfl : i = np n := by omega
          repeat' ((conv => whnf); first | refine Ob.g ?_ | refine Cases.y ?_ | refine Cases.n ?_ | refine Idx.g rfl ?_ | refine Idx.z rfl ?_ | refine DrawOb.start ?_ | refine TryF.f ?_ | refine TryF.next rfl ?_ | refine TryF.other ?_ | refine TryA.g ?_ | refine TryA.next rfl ?_ | refine TryA.other ?_ | refine TryS.g ?_ | refine TryS.next rfl ?_ | refine TryS.other ?_ | refine TryG.g ?_ | refine TryG.next rfl ?_)
          refine ⟨⟨_, _, rfl, rfl, ?_⟩⟩
          exact ch1_le (fun _ _ => rfl) rfl
      · have e : mlE N X l M Y m = 24 := by unfold mlE; rw [if_neg (fun h => h hc), if_neg (fun h => h hc2), if_pos hNM]
        rw [e, if_neg (by omega)]
        clear e
        refine fn_sp (C := CX) [] [] tysX_ok mixed Tryd.func42 rfl (by kernel_rfl) Tryd.ntmps42 rfl rfl ?_
        repeat' ((conv => whnf); first | refine Ob.g ?_ | refine Cases.y ?_ | refine Cases.n ?_ | refine Idx.g rfl ?_ | refine Idx.z rfl ?_ | refine DrawOb.start ?_ | refine TryF.f ?_ | refine TryF.next rfl ?_ | refine TryF.other ?_ | refine TryA.g ?_ | refine TryA.next rfl ?_ | refine TryA.other ?_ | refine TryS.g ?_ | refine TryS.next rfl ?_ | refine TryS.other ?_ | refine TryG.g ?_ | refine TryG.next rfl ?_ | refine Sp.g (s0) ?_ | refine Sp.g (s1) ?_)
        refine ⟨⟨_, _, rfl, rfl, ?_⟩⟩
        exact chz_le
    · have e : mlE N X l M Y m = chkE M Y m := by unfold mlE; rw [if_neg (fun h => h hc), if_pos hc2]
      rw [e, if_neg hc2]
      rw [hc] at s0
      clear e
      generalize chkE M Y m = e at *
      refine fn_sp (C := CX) [] [] tysX_ok mixed Tryd.func42 rfl (by kernel_rfl) Tryd.ntmps42 rfl rfl ?_
      repeat' ((conv => whnf); first | refine Ob.g ?_ | refine Cases.y ?_ | refine Cases.n ?_ | refine Idx.g rfl ?_ | refine Idx.z rfl ?_ | refine DrawOb.start ?_ | refine TryF.f ?_ | refine TryF.next rfl ?_ | refine TryF.other ?_ | refine TryA.g ?_ | refine TryA.next rfl ?_ | refine TryA.other ?_ | refine TryS.g ?_ | refine TryS.next rfl ?_ | refine TryS.other ?_ | refine TryG.g ?_ | refine TryG.next rfl ?_ | refine Sp.g (s0) ?_ | refine Sp.g (s1) ?_)
      refine ⟨⟨_, _, rfl, rfl, ?_⟩⟩
      exact chz_le
  · have e : mlE N X l M Y m = chkE N X l := by unfold mlE; rw [if_pos hc]
    rw [e, if_neg hc]
    clear e
    generalize chkE N X l = e at *
    refine fn_sp (C := CX) [] [] tysX_ok mixed Tryd.func42 rfl (by kernel_rfl) Tryd.ntmps42 rfl rfl ?_
    repeat' ((conv => whnf); first | refine Ob.g ?_ | refine Cases.y ?_ | refine Cases.n ?_ | refine Idx.g rfl ?_ | refine Idx.z rfl ?_ | refine DrawOb.start ?_ | refine TryF.f ?_ | refine TryF.next rfl ?_ | refine TryF.other ?_ | refine TryA.g ?_ | refine TryA.next rfl ?_ | refine TryA.other ?_ | refine TryS.g ?_ | refine TryS.next rfl ?_ | refine TryS.other ?_ | refine TryG.g ?_ | refine TryG.next rfl ?_ | refine Sp.g (s0) ?_)
    refine ⟨⟨_, _, rfl, rfl, ?_⟩⟩
    exact chz_le
end Go.Proofs.YtagigjppbabpkaaDoor

/- Dirichlet characters: extended and primitive characters, walked. -/
namespace HP
theorem gen_unit_chk : allB 61 (fun n => (prts n).all fun P => Nat.gcd (genT n P) n == 1) = true := by decide +kernel
theorem gen_unit {n i : Nat} (hn : n ≤ 60) (h : i < np n) : Nat.gcd (genT n (prtAt n i)) n = 1 := by
  have := List.all_eq_true.1 (allB_at gen_unit_chk (show n < 61 by omega)) _ (prtAt_mem h)
  simpa using this
/-- the exponents of the character with the modulus m whose values are those of a character at numbers h -/
def exW (n : Nat) (E : Nat → Nat) (m : Nat) (h : Nat → Nat) (i : Nat) : Nat := (valR n E (h i : Int)).2.1 * (prtAt m i).o / (valR n E (h i : Int)).2.2
/-- the least number from g on, in steps of f, that is prime to n -/
def liftK (n f g : Nat) : Option Nat := (List.range 61).find? fun k => Nat.gcd (g + k * f) n == 1
def liftT (n f g : Nat) : Nat := g + (liftK n f g).getD 0 * f
theorem lift_chk : allB 61 (fun n => Nat.beq n 0 || allB 61 fun f => Nat.beq f 0 || n % f != 0 || (prts f).all fun P => (liftK n f (genT f P)).isSome) = true := by decide +kernel
theorem lift_at {n f i : Nat} (hn0 : 1 ≤ n) (hn : n ≤ 60) (hf : f ∣ n) (hf0 : 1 ≤ f) (hf60 : f ≤ 60) (h : i < np f) : ∃ k, liftK n f (genT f (prtAt f i)) = some k := by
  have h0 := allB_at lift_chk (show n < 61 by omega)
  rw [show Nat.beq n 0 = false from by
    rw [Bool.eq_false_iff]; intro h; have := Nat.eq_of_beq_eq_true h; omega, Bool.false_or] at h0
  have h1 := allB_at h0 (show f < 61 by omega)
  rw [show Nat.beq f 0 = false from by
    rw [Bool.eq_false_iff]; intro h; have := Nat.eq_of_beq_eq_true h; omega, Nat.mod_eq_zero_of_dvd hf] at h1
  have h2 : ((prts f).all fun P => (liftK n f (genT f P)).isSome) = true := h1
  exact Option.isSome_iff_exists.1 (List.all_eq_true.1 h2 _ (prtAt_mem h))
theorem find_range {f : Nat → Bool} {n k : Nat} (h : (List.range n).find? f = some k) : k < n ∧ f k = true ∧ ∀ j, j < k → f j = false := by
  have h1 := List.find?_some h
  have h2 := List.mem_range.1 (List.mem_of_find?_eq_some h)
  refine ⟨h2, h1, fun j hj => ?_⟩
  obtain ⟨la, lb, hab, hno⟩ := (List.find?_eq_some_iff_append.1 h).2
  have hlen : la.length = k := by
    have h3 : (List.range n)[la.length]? = some k := by rw [hab, List.getElem?_append_right (Nat.le_refl _), Nat.sub_self]; rfl
    obtain ⟨h5, h6⟩ := List.getElem?_eq_some_iff.1 h3
    rw [List.getElem_range] at h6
    exact h6
  have hmem : j ∈ la := by
    have h3 : (List.range n)[j]? = la[j]? := by rw [hab, List.getElem?_append_left (by omega)]
    rw [List.getElem?_range (by omega)] at h3
    exact List.mem_of_getElem? h3.symm
  simpa using hno j hmem
theorem val_bd {n : Nat} (hn : n ≤ 60) (E : Nat → Nat) {a : Int} (hg : Int.gcd a n = 1) : 1 ≤ (valR n E a).2.2 ∧ (valR n E a).2.2 ≤ 60 ∧ (valR n E a).2.1 < (valR n E a).2.2 ∧ (valR n E a).1 = false := by
  unfold valR
  rw [if_pos hg]
  have hd := dn_pos hn (np n) (Nat.le_refl _)
  obtain ⟨_, f2, _, f4, f5⟩ := rt_facts (N := sm n (lgs n a) E (np n)) hd
  exact ⟨f2, Nat.le_trans (Nat.le_of_dvd hd f5) (Go.Proofs.YtagigjppbabpkaaDoor.dn_le hn (Nat.le_refl _)), f4, rfl⟩
def exE (N : Int) (X : Nat → Int) (l : Nat) (M : Int) : Int := if chkE N X l ≠ 0 then chkE N X l else if M < 1 ∨ 60 < M then 2 else if M.tmod N ≠ 0 then 14 else 0
def extW (N : Int) (X : Nat → Int) (m i : Nat) : Int := (exW N.toNat (fun i => (X i).toNat) m (fun i => genT m (prtAt m i)) i : Nat)
def priW (N : Int) (X : Nat → Int) (f i : Nat) : Int := (exW N.toNat (fun i => (X i).toNat) f (fun i => liftT N.toNat f (genT f (prtAt f i))) i : Nat)
theorem cnd_dvd {n : Nat} (hn0 : 1 ≤ n) (hn : n ≤ 60) (E : Nat → Nat) : cnd n E ∣ n ∧ 1 ≤ cnd n E ∧ cnd n E ≤ 60 := by
  obtain ⟨i1, _, _⟩ := cndI_spec hn0 hn E
  have hm : cnd n E ∈ dvs n := by
    unfold cnd
    rw [List.getD_eq_getElem?_getD, List.getElem?_eq_getElem i1]
    exact List.getElem_mem i1
  have hd := (dvs_mem hn0).1 hm
  have h1 := Nat.pos_of_dvd_of_pos hd hn0
  have h2 := Nat.le_of_dvd hn0 hd
  exact ⟨hd, h1, by omega⟩
end HP
namespace Go.Proofs.YtagigjppbabpkaaDoor
open Go Go.RowKit Go.VG HP
theorem plain_ru (p : Bool × Nat × Nat) : PlainAv (.v (ruT p)) := ⟨fun _ _ _ _ _ ⟨cs, e, hc⟩ => ⟨cs, e, by
  match cs, hc with
  | [_, _, _], ⟨⟨a1, a2⟩, ⟨b1, b2⟩, ⟨c1, c2⟩, _⟩ => exact ⟨⟨a1, a2⟩, ⟨b1, b2⟩, ⟨c1, c2⟩, trivial⟩⟩⟩
set_option maxHeartbeats 4000000 in
theorem from_sp (n : Nat) (hn0 : 1 ≤ n) (hn : n ≤ 60) (A : Int → Prop) (v : Int → Bool × Nat × Nat) (W : Nat → Int) (hA : ∀ i, i < np n → A (genT n (prtAt n i)))
    (hv : ∀ i, i < np n → 1 ≤ (v (genT n (prtAt n i))).2.2 ∧ (v (genT n (prtAt n i))).2.2 ≤ 1000 ∧ (v (genT n (prtAt n i))).2.1 ≤ 1000) (hW : ∀ i, i < np n → W i = ((v (genT n (prtAt n i))).2.1 * (prtAt n i).o / (v (genT n (prtAt n i))).2.2 : Nat)) :
    Sp CX 64 [int .i64 n, .v (.c (.p (FnR CX A fun a => .v (ruT (v a)))))] (.v (chV n W (np n))) := by
  obtain ⟨G, hG⟩ : ∃ G : Nat → Nat, ∀ i, G i = genT n (prtAt n i) := ⟨_, fun _ => rfl⟩
  obtain ⟨O, hO⟩ : ∃ O : Nat → Nat, ∀ i, O i = (prtAt n i).o := ⟨_, fun _ => rfl⟩
  have s0 := gens_sp n hn0 hn G O (fun i _ => hG i) (fun i _ => hO i)
  have hl := np_le hn
  refine fn_sp (C := CX) [] [2] tysX_ok mixed Tryd.func64 rfl (by kernel_rfl) Tryd.ntmps64 rfl rfl ?_
  repeat' ((conv => whnf); first | refine Ob.g ?_ | refine Cases.y ?_ | refine Cases.n ?_ | refine Idx.g rfl ?_ | refine Idx.z rfl ?_ | refine DrawOb.start ?_ | refine TryF.f ?_ | refine TryF.next rfl ?_ | refine TryF.other ?_ | refine TryA.g ?_ | refine TryA.next rfl ?_ | refine TryA.other ?_ | refine TryS.g ?_ | refine TryS.next rfl ?_ | refine TryS.other ?_ | refine TryG.g ?_ | refine TryG.next rfl ?_ | refine Sp.g (s0) ?_)
  refine ⟨⟨Nat, fun i => ⟨[(1, .v (.c (.p (FnR CX A fun a => .v (ruT (v a)))))), (4, .v (.c (.loc 0 0))), (5, .v (.c (.loc 1 0))), (7, .v (nsA O (np n))), (20, .v (nsA G (np n))), (21, int .i64 (np n)), (22, int .i64 i)], [(0, .st [ix 0, .x (.slice none 0 0)]), (1, .st [ix n, .row 2]), (2, .rw 1 3 false Int xL W i)], 3⟩, fun i => i ≤ np n, fun i => np n - i, ⟨0, [.m 1 1 2 1 3], Nat.zero_le _, Ent.g⟩, ?_⟩⟩
  intro i hi
  by_cases hd : i < np n
  · have ok := prt_z hn hd
    have o1 := ok.o1
    have o60 := ok.o60
    have ha := hA i hd
    have hw := hW i hd
    obtain ⟨v1, v2, v3⟩ := hv i hd
    clear hA hW hv ok
    rw [← hG i] at ha hw v1 v2 v3
    rw [← hO i] at o1 o60 hw
    obtain ⟨p, hvv⟩ : ∃ p, p = v (G i : Int) := ⟨_, rfl⟩
    rw [← hvv] at hw v1 v2 v3
    have m1 : p.2.1 * O i ≤ 1000 * 60 := Nat.mul_le_mul v3 o60
    have m2 : (p.2.1 : Int) * (O i : Nat) = ((p.2.1 * O i : Nat) : Int) := by push_cast; rfl
    have m3 : ((p.2.1 : Int) * (O i : Nat)).tdiv (p.2.2 : Nat) = W i := by rw [m2, hw]; exact (Int.ofNat_tdiv _ _).symm
    have hcall : ∀ {st : St} {K : Res → Prop}, K ⟨.v (ruT p), none⟩ → CallV CX st (FnR CX A fun a => .v (ruT (v a))) [int .i64 (G i)] K := fun {st K} hk => FnR.call ha (by rw [← hvv]; exact hk)
    clear ha hvv hG hO
    repeat' ((conv => whnf); first | refine Ob.g ?_ | refine Cases.y ?_ | refine Cases.n ?_ | refine Idx.g rfl ?_ | refine Idx.z rfl ?_ | refine DrawOb.start ?_ | refine TryF.f ?_ | refine TryF.next rfl ?_ | refine TryF.other ?_ | refine TryA.g ?_ | refine TryA.next rfl ?_ | refine TryA.other ?_ | refine TryS.g ?_ | refine TryS.next rfl ?_ | refine TryS.other ?_ | refine TryG.g ?_ | refine TryG.next rfl ?_ | (refine hcall ?_))
    refine ⟨⟨fun _ => W i, fun a j ha hj => ?_, fun _ _ _ _ => rfl, ?_⟩⟩
    · obtain rfl : a = 0 := by omega
      obtain rfl : j = 0 := by omega
      exact .int m3
    repeat' ((conv => whnf); first | refine Ob.g ?_ | refine Cases.y ?_ | refine Cases.n ?_ | refine Idx.g rfl ?_ | refine Idx.z rfl ?_ | refine DrawOb.start ?_ | refine TryF.f ?_ | refine TryF.next rfl ?_ | refine TryF.other ?_ | refine TryA.g ?_ | refine TryA.next rfl ?_ | refine TryA.other ?_ | refine TryS.g ?_ | refine TryS.next rfl ?_ | refine TryS.other ?_ | refine TryG.g ?_ | refine TryG.next rfl ?_)
    exact ⟨i + 1, [.c 1 1 2], hd, by show np n - (i + 1) < np n - i; omega, by
      refine ⟨?_, .cons rfl (.refl _) (.cons rfl (.refl _) (.cons rfl (blkLe_appN (c := 1) (fun i hi => by
        obtain rfl : i = 0 := by omega
        rfl) fun _ _ => rfl) .nil)), rfl⟩
      repeat (first | exact TmE.nil | refine TmE.cons (by first | exact AvLe.refl _ | exact AvLe.int (by omega)) ?_)⟩
  · obtain rfl : i = np n := by omega
    repeat' ((conv => whnf); first | refine Ob.g ?_ | refine Cases.y ?_ | refine Cases.n ?_ | refine Idx.g rfl ?_ | refine Idx.z rfl ?_ | refine DrawOb.start ?_ | refine TryF.f ?_ | refine TryF.next rfl ?_ | refine TryF.other ?_ | refine TryA.g ?_ | refine TryA.next rfl ?_ | refine TryA.other ?_ | refine TryS.g ?_ | refine TryS.next rfl ?_ | refine TryS.other ?_ | refine TryG.g ?_ | refine TryG.next rfl ?_)
    refine ⟨⟨_, _, rfl, rfl, ?_⟩⟩
    exact AvLe.refl _
def xP (n : Nat) (X : Nat → Int) (l : Nat) : AV := .v (.c (.ptr 2 fun j => getL [ix n, xsL X l] (0 + j)))
def fP (f : Nat) : AV := .v (.c (.ptr 1 fun j => getL [ix f] (0 + j)))
theorem ext1_sp {n : Nat} {E : Nat → Nat} {X : Nat → Int} {l : Nat} (c : ChOk n X l E) (a : Int) (h1 : 0 ≤ a) (h2 : a ≤ 100) : Sp CX 69 [int .i64 a, xP n X l] (.v (ruT (valR n E a))) := by
  have s := val_sp c a (by omega) (by omega)
  generalize valR n E a = p at *
  refine fn_sp (C := CX) [] [] tysX_ok mixed Tryd.func69 rfl (by kernel_rfl) Tryd.ntmps69 rfl rfl ?_
  repeat' ((conv => whnf); first | refine Ob.g ?_ | refine Cases.y ?_ | refine Cases.n ?_ | refine Idx.g rfl ?_ | refine Idx.z rfl ?_ | refine DrawOb.start ?_ | refine TryF.f ?_ | refine TryF.next rfl ?_ | refine TryF.other ?_ | refine TryA.g ?_ | refine TryA.next rfl ?_ | refine TryA.other ?_ | refine TryS.g ?_ | refine TryS.next rfl ?_ | refine TryS.other ?_ | refine TryG.g ?_ | refine TryG.next rfl ?_ | refine Sp.g (s) ?_)
  refine ⟨⟨_, _, rfl, rfl, ?_⟩⟩
  exact AvLe.refl _
set_option maxHeartbeats 4000000 in
theorem pri1_sp {n : Nat} {E : Nat → Nat} {X : Nat → Int} {l : Nat} (c : ChOk n X l E) (f g k : Nat) (hf : f ≤ 60) (hg : g ≤ 60) (hk : liftK n f g = some k) : Sp CX 70 [int .i64 g, xP n X l, fP f] (.v (ruT (valR n E (liftT n f g : Nat)))) := by
  obtain ⟨k1, k2, k3⟩ := find_range hk
  simp only [beq_iff_eq, beq_eq_false_iff_ne] at k2 k3
  have e : liftT n f g = g + k * f := by unfold liftT; rw [hk]; rfl
  have hb : ∀ j, j ≤ k → j * f ≤ 60 * 60 := fun j hj => Nat.mul_le_mul (by omega) hf
  have n1 := c.n1
  have s1 := val_sp c ((g + k * f : Nat) : Int) (by omega) (by have := hb k (Nat.le_refl _); omega)
  rw [e]
  generalize valR n E ((g + k * f : Nat) : Int) = p at *
  clear c e hk
  refine fn_sp (C := CX) [] [] tysX_ok mixed Tryd.func70 rfl (by kernel_rfl) Tryd.ntmps70 rfl rfl ?_
  repeat' ((conv => whnf); first | refine Ob.g ?_ | refine Cases.y ?_ | refine Cases.n ?_ | refine Idx.g rfl ?_ | refine Idx.z rfl ?_ | refine DrawOb.start ?_ | refine TryF.f ?_ | refine TryF.next rfl ?_ | refine TryF.other ?_ | refine TryA.g ?_ | refine TryA.next rfl ?_ | refine TryA.other ?_ | refine TryS.g ?_ | refine TryS.next rfl ?_ | refine TryS.other ?_ | refine TryG.g ?_ | refine TryG.next rfl ?_)
  refine ⟨⟨Nat × Nat, fun (_, a) => ⟨[(0, int .i64 a), (1, xP n X l), (2, fP f), (4, .v (.c (.loc 0 0)))], [(0, .st [.x (.bool false), ix 0, ix 0])], 1⟩, fun (j, a) => j ≤ k ∧ a = g + j * f, fun (j, _) => k - j, ⟨(0, g), [], ⟨Nat.zero_le _, by omega⟩, Ent.g⟩, ?_⟩⟩
  rintro ⟨j, a⟩ ⟨j1, ha⟩
  have hbj := hb j j1
  have s2 := agcd_sp (a : Int) (n : Int) (by omega) (by omega) (by omega) (by omega)
  rw [Int.gcd_natCast_natCast] at s2
  by_cases hj : j < k
  · have hne := k3 j hj
    rw [← ha] at hne
    have hn2 : a + f = g + (j + 1) * f := by rw [Nat.add_mul]; omega
    clear k3 k2 hb
    generalize Nat.gcd a n = d at *
    repeat' ((conv => whnf); first | refine Ob.g ?_ | refine Cases.y ?_ | refine Cases.n ?_ | refine Idx.g rfl ?_ | refine Idx.z rfl ?_ | refine DrawOb.start ?_ | refine TryF.f ?_ | refine TryF.next rfl ?_ | refine TryF.other ?_ | refine TryA.g ?_ | refine TryA.next rfl ?_ | refine TryA.other ?_ | refine TryS.g ?_ | refine TryS.next rfl ?_ | refine TryS.other ?_ | refine TryG.g ?_ | refine TryG.next rfl ?_ | refine Sp.g (s2) ?_)
    exact ⟨(j + 1, a + f), [], ⟨hj, hn2⟩, by show k - (j + 1) < k - j; omega, Ent.g⟩
  · obtain rfl : j = k := by omega
    rw [← ha] at k2 s1
    rw [k2] at s2
    clear k3 hb
    repeat' ((conv => whnf); first | refine Ob.g ?_ | refine Cases.y ?_ | refine Cases.n ?_ | refine Idx.g rfl ?_ | refine Idx.z rfl ?_ | refine DrawOb.start ?_ | refine TryF.f ?_ | refine TryF.next rfl ?_ | refine TryF.other ?_ | refine TryA.g ?_ | refine TryA.next rfl ?_ | refine TryA.other ?_ | refine TryS.g ?_ | refine TryS.next rfl ?_ | refine TryS.other ?_ | refine TryG.g ?_ | refine TryG.next rfl ?_ | refine Sp.g (s2) ?_ | refine Sp.g (s1) ?_)
    refine ⟨⟨_, _, rfl, rfl, ?_⟩⟩
    exact AvLe.refl _
theorem zch_le {e : Int} {X : Nat → Int} : AvLe (.tup [.agg [.x (.int .i64 0), .x (.slice none 0 0)], .c (ix e)]) (.tup [chV 0 X 0, .c (ix e)]) := chz_le
set_option maxHeartbeats 4000000 in
theorem Extend_sp (N : Int) (X : Nat → Int) (l : Nat) (M : Int) (hM1 : -9223372036854775808 ≤ M) (hM2 : M ≤ 9223372036854775807) : Sp CX 36 [chA N X l, int .i64 M] (.tup [if exE N X l M = 0 then chV M (extW N X M.toNat) (np M.toNat) else chV 0 X 0, .c (ix (exE N X l M))]) := by
  have s0 := chk_sp N X l
  by_cases hc : chkE N X l = 0
  · obtain ⟨n, rfl, ok⟩ := chk_out hc
    rw [hc] at s0
    by_cases hr : M < 1 ∨ 60 < M
    · have e : exE n X l M = 2 := by unfold exE; rw [if_neg (fun h => h hc), if_pos hr]
      rw [e, if_neg (by omega)]
      have s1 := dwi_f hr
      clear hr e hc
      refine fn_sp (C := CX) [] [] tysX_ok mixed Tryd.func36 rfl (by kernel_rfl) Tryd.ntmps36 rfl rfl ?_
      repeat' ((conv => whnf); first | refine Ob.g ?_ | refine Cases.y ?_ | refine Cases.n ?_ | refine Idx.g rfl ?_ | refine Idx.z rfl ?_ | refine DrawOb.start ?_ | refine TryF.f ?_ | refine TryF.next rfl ?_ | refine TryF.other ?_ | refine TryA.g ?_ | refine TryA.next rfl ?_ | refine TryA.other ?_ | refine TryS.g ?_ | refine TryS.next rfl ?_ | refine TryS.other ?_ | refine TryG.g ?_ | refine TryG.next rfl ?_ | refine Sp.g (s0) ?_ | refine Sp.g (s1) ?_)
      refine ⟨⟨_, _, rfl, rfl, ?_⟩⟩
      exact chz_le
    · obtain ⟨m, rfl⟩ : ∃ m : Nat, M = m := ⟨M.toNat, by omega⟩
      have s1 := dwi_t (n := m) (by omega) (by omega)
      have n0 := ok.n0
      have hmd : (m : Int).tmod n = ((m % n : Nat) : Int) := (Int.ofNat_tmod _ _).symm
      by_cases hd : m % n = 0
      · have e : exE n X l m = 0 := by unfold exE; rw [if_neg (fun h => h hc), if_neg hr, hmd, hd, if_neg (fun h => h rfl)]
        rw [e, if_pos rfl, Int.toNat_natCast]
        have hnm : n ∣ m := Nat.dvd_of_mod_eq_zero hd
        have hgu : ∀ i, i < np m → Int.gcd ((genT m (prtAt m i) : Nat) : Int) n = 1 := fun i hi => by
          rw [Int.gcd_natCast_natCast]
          exact Nat.Coprime.coprime_dvd_right hnm (gen_unit (by omega) hi)
        have hgl : ∀ i, i < np m → genT m (prtAt m i) ≤ 60 := fun i hi => by have := genT_lt (prt_z (by omega) hi); omega
        have s2 := from_sp m (by omega) (by omega) (fun a => 0 ≤ a ∧ a ≤ 60) (fun a => valR n (fun i => (X i).toNat) a) (extW n X m) (fun i hi => by have := hgl i hi; omega)
          (fun i hi => by obtain ⟨v1, v2, v3, _⟩ := val_bd ok.n1 (fun i => (X i).toNat) (hgu i hi); exact ⟨v1, by omega, by omega⟩) (fun i hi => rfl)
        have sF : ∀ a : Int, (0 ≤ a ∧ a ≤ 60) → Sp CX 69 (int .i64 a :: [xP n X l]) (.v (ruT (valR n (fun i => (X i).toNat) a))) := fun a ha => ext1_sp ok a ha.1 (by omega)
        have hok : CallOk CX.P 69 := callOk Tryd.func69 (by kernel_rfl) (by kernel_rfl)
        clear hgu hgl e hc hr hnm
        generalize extW n X m = W at *
        refine fn_sp (C := CX) [(1000008,0)] [] tysX_ok mixed Tryd.func36 rfl (by kernel_rfl) Tryd.ntmps36 rfl rfl ?_
        repeat' ((conv => whnf); first | refine Ob.g ?_ | refine Cases.y ?_ | refine Cases.n ?_ | refine Idx.g rfl ?_ | refine Idx.z rfl ?_ | refine DrawOb.start ?_ | refine TryF.f ?_ | refine TryF.next rfl ?_ | refine TryF.other ?_ | refine TryA.g ?_ | refine TryA.next rfl ?_ | refine TryA.other ?_ | refine TryS.g ?_ | refine TryS.next rfl ?_ | refine TryS.other ?_ | refine TryG.g ?_ | refine TryG.next rfl ?_ | refine Sp.g (s0) ?_ | refine Sp.g (s1) ?_ | (refine FnR.mk (fun a => 0 ≤ a ∧ a ≤ 60) (fun a => .v (ruT (valR n (fun i => (X i).toNat) a))) hok sF (fun _ _ => plain_ru _) ?_) | refine Sp.g (s2) ?_)
        refine ⟨⟨_, _, rfl, rfl, ?_⟩⟩
        exact AvLe.refl _
      · have e : exE n X l m = 14 := by unfold exE; rw [if_neg (fun h => h hc), if_neg hr, hmd, if_pos (by omega)]
        rw [e, if_neg (by omega)]
        clear e hc hr
        refine fn_sp (C := CX) [] [] tysX_ok mixed Tryd.func36 rfl (by kernel_rfl) Tryd.ntmps36 rfl rfl ?_
        repeat' ((conv => whnf); first | refine Ob.g ?_ | refine Cases.y ?_ | refine Cases.n ?_ | refine Idx.g rfl ?_ | refine Idx.z rfl ?_ | refine DrawOb.start ?_ | refine TryF.f ?_ | refine TryF.next rfl ?_ | refine TryF.other ?_ | refine TryA.g ?_ | refine TryA.next rfl ?_ | refine TryA.other ?_ | refine TryS.g ?_ | refine TryS.next rfl ?_ | refine TryS.other ?_ | refine TryG.g ?_ | refine TryG.next rfl ?_ | refine Sp.g (s0) ?_ | refine Sp.g (s1) ?_)
        refine ⟨⟨_, _, rfl, rfl, ?_⟩⟩
        exact chz_le
  · have e : exE N X l M = chkE N X l := by unfold exE; rw [if_pos hc]
    rw [e, if_neg hc]
    clear e
    generalize chkE N X l = e at *
    refine fn_sp (C := CX) [] [] tysX_ok mixed Tryd.func36 rfl (by kernel_rfl) Tryd.ntmps36 rfl rfl ?_
    repeat' ((conv => whnf); first | refine Ob.g ?_ | refine Cases.y ?_ | refine Cases.n ?_ | refine Idx.g rfl ?_ | refine Idx.z rfl ?_ | refine DrawOb.start ?_ | refine TryF.f ?_ | refine TryF.next rfl ?_ | refine TryF.other ?_ | refine TryA.g ?_ | refine TryA.next rfl ?_ | refine TryA.other ?_ | refine TryS.g ?_ | refine TryS.next rfl ?_ | refine TryS.other ?_ | refine TryG.g ?_ | refine TryG.next rfl ?_ | refine Sp.g (s0) ?_)
    refine ⟨⟨_, _, rfl, rfl, ?_⟩⟩
    exact chz_le
set_option maxHeartbeats 4000000 in
theorem Primitive_sp (N : Int) (X : Nat → Int) (l : Nat) : Sp CX 39 [chA N X l] (.tup [if chkE N X l = 0 then chV (cnd N.toNat (fun i => (X i).toNat) : Nat) (priW N X (cnd N.toNat (fun i => (X i).toNat))) (np (cnd N.toNat (fun i => (X i).toNat))) else chV 0 X 0, .c (ix (chkE N X l))]) := by
  have s0 := chk_sp N X l
  by_cases hc : chkE N X l = 0
  · obtain ⟨n, rfl, ok⟩ := chk_out hc
    rw [if_pos hc, hc, Int.toNat_natCast]
    rw [hc] at s0
    have s1 := conductor_sp ok
    obtain ⟨d1, d2, d3⟩ := cnd_dvd ok.n0 ok.n1 (fun i => (X i).toNat)
    generalize cnd n (fun i => (X i).toNat) = f at *
    have n1 := ok.n1
    have hgl : ∀ i, i < np f → genT f (prtAt f i) ≤ 60 := fun i hi => by have := genT_lt (prt_z d3 hi); omega
    have hlk : ∀ i, i < np f → ∃ k, liftK n f (genT f (prtAt f i)) = some k := fun i hi => lift_at ok.n0 n1 d1 d2 d3 hi
    have s2 := from_sp f d2 d3 (fun a => ∃ g k : Nat, a = g ∧ g ≤ 60 ∧ liftK n f g = some k) (fun a => valR n (fun i => (X i).toNat) (liftT n f a.toNat : Nat)) (priW n X f) (fun i hi => by
        obtain ⟨k, hk⟩ := hlk i hi
        exact ⟨_, k, rfl, hgl i hi, hk⟩)
      (fun i hi => by
        obtain ⟨k, hk⟩ := hlk i hi
        obtain ⟨_, k2, _⟩ := find_range hk
        have e : liftT n f (genT f (prtAt f i)) = genT f (prtAt f i) + k * f := by unfold liftT; rw [hk]; rfl
        have hgc : Int.gcd ((liftT n f (genT f (prtAt f i)) : Nat) : Int) n = 1 := by rw [Int.gcd_natCast_natCast, e]; simpa using k2
        obtain ⟨v1, v2, v3, _⟩ := val_bd n1 (fun i => (X i).toNat) hgc
        rw [Int.toNat_natCast]
        exact ⟨v1, by omega, by omega⟩) (fun i hi => by rw [Int.toNat_natCast]; rfl)
    have sF : ∀ a : Int, (∃ g k : Nat, a = g ∧ g ≤ 60 ∧ liftK n f g = some k) → Sp CX 70 (int .i64 a :: [xP n X l, fP f]) (.v (ruT (valR n (fun i => (X i).toNat) (liftT n f a.toNat : Nat)))) := fun a ⟨g, k, ha, hg, hk⟩ => by
      subst ha
      rw [Int.toNat_natCast]
      exact pri1_sp ok f g k d3 hg hk
    have hok : CallOk CX.P 70 := callOk Tryd.func70 (by kernel_rfl) (by kernel_rfl)
    clear hgl hlk hc d1
    generalize priW n X f = W at *
    refine fn_sp (C := CX) [(1000005,0),(1000005,2)] [] tysX_ok mixed Tryd.func39 rfl (by kernel_rfl) Tryd.ntmps39 rfl rfl ?_
    repeat' ((conv => whnf); first | refine Ob.g ?_ | refine Cases.y ?_ | refine Cases.n ?_ | refine Idx.g rfl ?_ | refine Idx.z rfl ?_ | refine DrawOb.start ?_ | refine TryF.f ?_ | refine TryF.next rfl ?_ | refine TryF.other ?_ | refine TryA.g ?_ | refine TryA.next rfl ?_ | refine TryA.other ?_ | refine TryS.g ?_ | refine TryS.next rfl ?_ | refine TryS.other ?_ | refine TryG.g ?_ | refine TryG.next rfl ?_ | refine Sp.g (s0) ?_ | refine Sp.g (s1) ?_ | (refine FnR.mk (fun a => ∃ g k : Nat, a = g ∧ g ≤ 60 ∧ liftK n f g = some k) (fun a => .v (ruT (valR n (fun i => (X i).toNat) (liftT n f a.toNat : Nat)))) hok sF (fun _ _ => plain_ru _) ?_) | refine Sp.g (s2) ?_)
    refine ⟨⟨_, _, rfl, rfl, ?_⟩⟩
    exact AvLe.refl _
  · rw [if_neg hc]
    generalize chkE N X l = e at *
    refine fn_sp (C := CX) [] [] tysX_ok mixed Tryd.func39 rfl (by kernel_rfl) Tryd.ntmps39 rfl rfl ?_
    repeat' ((conv => whnf); first | refine Ob.g ?_ | refine Cases.y ?_ | refine Cases.n ?_ | refine Idx.g rfl ?_ | refine Idx.z rfl ?_ | refine DrawOb.start ?_ | refine TryF.f ?_ | refine TryF.next rfl ?_ | refine TryF.other ?_ | refine TryA.g ?_ | refine TryA.next rfl ?_ | refine TryA.other ?_ | refine TryS.g ?_ | refine TryS.next rfl ?_ | refine TryS.other ?_ | refine TryG.g ?_ | refine TryG.next rfl ?_ | refine Sp.g (s0) ?_)
    refine ⟨⟨_, _, rfl, rfl, ?_⟩⟩
    exact chz_le
end Go.Proofs.YtagigjppbabpkaaDoor

/- Dirichlet characters: all characters, quadratic characters, walked. -/
namespace HP
/-- the exponents of character number j, of the parts below i -/
def allZ (n : Nat) : Nat → Nat → List Nat
  | 0, _ => []
  | i + 1, j => allZ n i (j / (prtAt n i).o) ++ [j % (prtAt n i).o]
theorem allZ_len (n : Nat) : ∀ i j, (allZ n i j).length = i
  | 0, _ => rfl
  | i + 1, j => by rw [allZ, List.length_append, allZ_len n i]; rfl
theorem allZ_at {n i a k : Nat} (hk : k < (prtAt n i).o) : allZ n (i + 1) (a * (prtAt n i).o + k) = allZ n i a ++ [k] := by
  rw [allZ, Nat.add_comm, Nat.add_mul_div_right _ _ (by omega), Nat.div_eq_of_lt hk, Nat.zero_add, Nat.add_mul_mod_self_right, Nat.mod_eq_of_lt hk]
end HP
namespace Go.Proofs.YtagigjppbabpkaaDoor
open Go Go.RowKit Go.VG HP
/-- a character in a list -/
def chlL (n : Nat) (z : List Nat) (j : Nat) : Leaf := if j = 0 then ix n else if z = [] then .x (.slice none 0 0) else .sl 1 Nat nsL (fun i => z.getD i 0) z.length
theorem chlL_pure (n : Nat) (z : List Nat) (j : Nat) : pureN (chlL n z j) = true := by
  unfold chlL
  split
  · rfl
  · split <;> rfl
theorem chlL_pl (n : Nat) (z : List Nat) (j : Nat) : pureL (chlL n z j) = true := pureN_l (chlL_pure n z j)
theorem clone0_sp : Sp CX 71 [.v (.c (.x (.slice none 0 0)))] (.v (.c (.x (.slice none 0 0)))) := by
  refine fn_sp (C := CX) [] [] tysX_ok mixed Tryd.func71 rfl (by kernel_rfl) Tryd.ntmps71 rfl rfl ?_
  repeat' ((conv => whnf); first | refine Ob.g ?_ | refine Cases.y ?_ | refine Cases.n ?_ | refine Idx.g rfl ?_ | refine Idx.z rfl ?_ | refine DrawOb.start ?_ | refine TryF.f ?_ | refine TryF.next rfl ?_ | refine TryF.other ?_ | refine TryA.g ?_ | refine TryA.next rfl ?_ | refine TryA.other ?_ | refine TryS.g ?_ | refine TryS.next rfl ?_ | refine TryS.other ?_ | refine TryG.g ?_ | refine TryG.next rfl ?_)
  refine ⟨⟨_, _, rfl, rfl, ?_⟩⟩
  exact AvLe.refl _
theorem clone_sp (Z : Nat → Nat) (m : Nat) (h1 : 1 ≤ m) (hm : m ≤ 1000) : SpR CX 71 [.v (nsA Z m)] 1 3 Nat nsL Z m := by
  refine fn_spR (C := CX) [] tysX_ok mixed Tryd.func71 rfl (by kernel_rfl) Tryd.ntmps71 rfl ?_
  repeat' ((conv => whnf); first | refine Ob.g ?_ | refine Cases.y ?_ | refine Cases.n ?_ | refine Idx.g rfl ?_ | refine Idx.z rfl ?_ | refine DrawOb.start ?_ | refine TryF.f ?_ | refine TryF.next rfl ?_ | refine TryF.other ?_ | refine TryA.g ?_ | refine TryA.next rfl ?_ | refine TryA.other ?_ | refine TryS.g ?_ | refine TryS.next rfl ?_ | refine TryS.other ?_ | refine TryG.g ?_ | refine TryG.next rfl ?_)
  refine ⟨⟨Nat, nsL, fun _ => 0, 0, rfl, fun i j h => absurd h (Nat.not_lt_zero _), ?_⟩⟩
  repeat' ((conv => whnf); first | refine Ob.g ?_ | refine Cases.y ?_ | refine Cases.n ?_ | refine Idx.g rfl ?_ | refine Idx.z rfl ?_ | refine DrawOb.start ?_ | refine TryF.f ?_ | refine TryF.next rfl ?_ | refine TryF.other ?_ | refine TryA.g ?_ | refine TryA.next rfl ?_ | refine TryA.other ?_ | refine TryS.g ?_ | refine TryS.next rfl ?_ | refine TryS.other ?_ | refine TryG.g ?_ | refine TryG.next rfl ?_)
  refine ⟨⟨Z, fun _ _ _ _ => .refl _, fun _ _ _ _ => rfl, ?_⟩⟩
  repeat' ((conv => whnf); first | refine Ob.g ?_ | refine Cases.y ?_ | refine Cases.n ?_ | refine Idx.g rfl ?_ | refine Idx.z rfl ?_ | refine DrawOb.start ?_ | refine TryF.f ?_ | refine TryF.next rfl ?_ | refine TryF.other ?_ | refine TryA.g ?_ | refine TryA.next rfl ?_ | refine TryA.other ?_ | refine TryS.g ?_ | refine TryS.next rfl ?_ | refine TryS.other ?_ | refine TryG.g ?_ | refine TryG.next rfl ?_)
  refine ⟨⟨_, _, _, rfl, rfl, rfl, ?_⟩⟩
  have := blkLe_appN (k := 1) (n := 0) (c := m) (e := 3) (u := false) (mk := nsL) (Z := Z) (Y := Z) (fun i _ => by rw [Nat.zero_add]) (fun _ _ => rfl)
  rw [Nat.zero_add] at this
  refine ⟨fun w R R' v hR hA => this.h w R R' v hR ?_⟩
  have e : appZ Nat (fun _ => 0) Z 0 = appZ Nat Z Z 0 := by funext i; simp [appZ]
  rw [← e, ← Nat.zero_add m]
  exact hA
set_option maxHeartbeats 4000000 in
theorem All_sp (n : Nat) (hn0 : 1 ≤ n) (hn : n ≤ 60) : Sp CX 40 [int .i64 n] (.tup [.c (.sl 2 (List Nat) (chlL n) (allZ n (np n)) (dn n (np n))), .c (ix 0)]) := by
  have s0 := dwi_t hn0 hn
  have s1 := parts_sp n (prtAt n) (np n) (fun i x h => by unfold prtAt; rw [List.getD_eq_getElem?_getD, h]; rfl) rfl hn0 hn
  have hl := np_le hn
  refine fn_sp (C := CX) [(1000018,1)] [] tysX_ok mixed Tryd.func40 rfl (by kernel_rfl) Tryd.ntmps40 rfl rfl ?_
  repeat' ((conv => whnf); first | refine Ob.g ?_ | refine Cases.y ?_ | refine Cases.n ?_ | refine Idx.g rfl ?_ | refine Idx.z rfl ?_ | refine DrawOb.start ?_ | refine TryF.f ?_ | refine TryF.next rfl ?_ | refine TryF.other ?_ | refine TryA.g ?_ | refine TryA.next rfl ?_ | refine TryA.other ?_ | refine TryS.g ?_ | refine TryS.next rfl ?_ | refine TryS.other ?_ | refine TryG.g ?_ | refine TryG.next rfl ?_ | refine Sp.g (s0) ?_ | refine Sp.g (s1) ?_)
  refine ⟨⟨Nat, fun i => ⟨[(0, int .i64 n), (4, .v (.c (.sl 2 (List Nat) (chlL n) (allZ n i) (dn n i)))), (18, .v (.c (.sl 3 Prt prtL (prtAt n) (np n)))), (19, int .i64 (np n)), (20, int .i64 i)], [], 0⟩, fun i => i ≤ np n, fun i => np n - i, ⟨0, [], Nat.zero_le _, by
    refine ⟨.cons (.refl _) (.cons (.leaf (.sl fun i j hi hj => ?_)) (.cons (.refl _) (.cons (.refl _) (.cons (.refl _) .nil)))), .nil, rfl⟩
    obtain rfl : i = 0 := by have : dn n 0 = 1 := rfl; omega
    have hj : j < 2 := hj
    have : j = 0 ∨ j = 1 := by omega
    rcases this with rfl | rfl
    · exact .refl _
    · exact .refl _⟩, ?_⟩⟩
  intro i hi
  by_cases hd : i < np n
  · have ok := prt_z hn hd
    have o1 := ok.o1
    have o60 := ok.o60
    have hds := dn_le hn (show i + 1 ≤ np n by omega)
    have hdi := dn_le hn (show i ≤ np n by omega)
    have hdn : dn n (i + 1) = dn n i * (prtAt n i).o := rfl
    clear ok
    repeat' ((conv => whnf); first | refine Ob.g ?_ | refine Cases.y ?_ | refine Cases.n ?_ | refine Idx.g rfl ?_ | refine Idx.z rfl ?_ | refine DrawOb.start ?_ | refine TryF.f ?_ | refine TryF.next rfl ?_ | refine TryF.other ?_ | refine TryA.g ?_ | refine TryA.next rfl ?_ | refine TryA.other ?_ | refine TryS.g ?_ | refine TryS.next rfl ?_ | refine TryS.other ?_ | refine TryG.g ?_ | refine TryG.next rfl ?_)
    refine ⟨⟨Nat, fun a => ⟨[(0, int .i64 n), (6, .v (.c (.loc 0 0))), (7, .v (.c (.row 1))), (18, .v (.c (.sl 3 Prt prtL (prtAt n) (np n)))), (19, int .i64 (np n)), (20, int .i64 i), (24, .v (.c (.sl 2 (List Nat) (chlL n) (allZ n i) (dn n i)))), (25, int .i64 (dn n i)), (26, int .i64 a)], [(0, .st [ix (prtAt n i).r, ix (prtAt n i).o, ix (prtAt n i).q]), (1, .rw 2 33 false (List Nat) (chlL n) (allZ n (i + 1)) (a * (prtAt n i).o))], 2⟩, fun a => a ≤ dn n i, fun a => dn n i - a, ⟨0, [.n 7 1 2 33], Nat.zero_le _, by
      refine ⟨?_, .cons rfl (.refl _) (.cons rfl (by rw [Nat.zero_mul]; exact BlkLe.zero) .nil), rfl⟩
      repeat (first | exact TmE.nil | refine TmE.cons (by first | exact AvLe.refl _ | exact AvLe.int (by omega)) ?_)⟩, ?_⟩⟩
    intro a ha
    by_cases hda : a < dn n i
    · have hao : (a + 1) * (prtAt n i).o ≤ 60 := by
        have : (a + 1) * (prtAt n i).o ≤ dn n i * (prtAt n i).o := Nat.mul_le_mul_right _ hda
        omega
      rw [Nat.add_mul] at hao
      have hlen := allZ_len n i a
      by_cases h0 : allZ n i a = []
      · have hf : (fun q => chlL n (allZ n i a) q) = fun q => if q = 0 then ix n else .x (.slice none 0 0) := by
          funext q
          unfold chlL
          by_cases hq : q = 0
          · rw [if_pos hq, if_pos hq]
          · rw [if_neg hq, if_neg hq, if_pos h0]
        repeat' ((conv => whnf); first | refine Ob.g ?_ | refine Cases.y ?_ | refine Cases.n ?_ | refine Idx.g rfl ?_ | refine Idx.z rfl ?_ | refine DrawOb.start ?_ | refine TryF.f ?_ | refine TryF.next rfl ?_ | refine TryF.other ?_ | refine TryA.g ?_ | refine TryA.next rfl ?_ | refine TryA.other ?_ | refine TryS.g ?_ | refine TryS.next rfl ?_ | refine TryS.other ?_ | refine TryG.g ?_ | refine TryG.next rfl ?_)
        rw [hf]
        repeat' ((conv => whnf); first | refine Ob.g ?_ | refine Cases.y ?_ | refine Cases.n ?_ | refine Idx.g rfl ?_ | refine Idx.z rfl ?_ | refine DrawOb.start ?_ | refine TryF.f ?_ | refine TryF.next rfl ?_ | refine TryF.other ?_ | refine TryA.g ?_ | refine TryA.next rfl ?_ | refine TryA.other ?_ | refine TryS.g ?_ | refine TryS.next rfl ?_ | refine TryS.other ?_ | refine TryG.g ?_ | refine TryG.next rfl ?_)
        refine ⟨⟨Nat, fun k => ⟨[(0, int .i64 n), (6, .v (.c (.loc 0 0))), (7, .v (.c (.row 1))), (9, .v (.c (.loc 2 0))), (18, .v (.c (.sl 3 Prt prtL (prtAt n) (np n)))), (19, int .i64 (np n)), (20, int .i64 i), (24, .v (.c (.sl 2 (List Nat) (chlL n) (allZ n i) (dn n i)))), (25, int .i64 (dn n i)), (26, int .i64 a), (31, int .i64 (prtAt n i).o), (32, int .i64 k)], [(0, .st [ix (prtAt n i).r, ix (prtAt n i).o, ix (prtAt n i).q]), (1, .rw 2 33 false (List Nat) (chlL n) (allZ n (i + 1)) (a * (prtAt n i).o + k)), (2, .st [ix n, .x (.slice none 0 0)])], 3⟩, fun k => k ≤ (prtAt n i).o, fun k => (prtAt n i).o - k, ⟨0, [], Nat.zero_le _, Ent.g⟩, ?_⟩⟩
        intro k hk
        by_cases hdk : k < (prtAt n i).o
        · have hel := allZ_at (a := a) hdk
          rw [h0, List.nil_append] at hel
          have s2 := clone0_sp
          repeat' ((conv => whnf); first | refine Ob.g ?_ | refine Cases.y ?_ | refine Cases.n ?_ | refine Idx.g rfl ?_ | refine Idx.z rfl ?_ | refine DrawOb.start ?_ | refine TryF.f ?_ | refine TryF.next rfl ?_ | refine TryF.other ?_ | refine TryA.g ?_ | refine TryA.next rfl ?_ | refine TryA.other ?_ | refine TryS.g ?_ | refine TryS.next rfl ?_ | refine TryS.other ?_ | refine TryG.g ?_ | refine TryG.next rfl ?_ | refine Sp.g (s2) ?_)
          refine ⟨⟨Nat, nsL, fun _ => k, fun i' j hi' hj => ?_, fun _ _ _ _ => rfl, ?_⟩⟩
          · obtain rfl : i' = 0 := by omega
            obtain rfl : j = 0 := by have hj : j < 1 := hj; omega
            exact .refl _
          repeat' ((conv => whnf); first | refine Ob.g ?_ | refine Cases.y ?_ | refine Cases.n ?_ | refine Idx.g rfl ?_ | refine Idx.z rfl ?_ | refine DrawOb.start ?_ | refine TryF.f ?_ | refine TryF.next rfl ?_ | refine TryF.other ?_ | refine TryA.g ?_ | refine TryA.next rfl ?_ | refine TryA.other ?_ | refine TryS.g ?_ | refine TryS.next rfl ?_ | refine TryS.other ?_ | refine TryG.g ?_ | refine TryG.next rfl ?_)
          refine ⟨⟨fun _ => [k], fun i' j hi' hj => ?_, fun _ _ _ _ => chlL_pure _ _ _, ?_⟩⟩
          · obtain rfl : i' = 0 := by omega
            have hj : j < 2 := hj
            have : j = 0 ∨ j = 1 := by omega
            rcases this with rfl | rfl
            · exact .refl _
            · exact .sl fun i'' j' hi'' hj' => by
                have hi'' : i'' < 1 := hi''
                obtain rfl : i'' = 0 := by omega
                exact .refl _
          repeat' ((conv => whnf); first | refine Ob.g ?_ | refine Cases.y ?_ | refine Cases.n ?_ | refine Idx.g rfl ?_ | refine Idx.z rfl ?_ | refine DrawOb.start ?_ | refine TryF.f ?_ | refine TryF.next rfl ?_ | refine TryF.other ?_ | refine TryA.g ?_ | refine TryA.next rfl ?_ | refine TryA.other ?_ | refine TryS.g ?_ | refine TryS.next rfl ?_ | refine TryS.other ?_ | refine TryG.g ?_ | refine TryG.next rfl ?_)
          exact ⟨k + 1, [.r 7 1], hdk, by show (prtAt n i).o - (k + 1) < (prtAt n i).o - k; omega, by
            refine ⟨?_, .cons rfl (.refl _) (.cons rfl (blkLe_appN (c := 1) (fun i' hi' => by
              obtain rfl : i' = 0 := by omega
              exact hel.symm) (chlL_pl n)) (.cons rfl (.refl _) .nil)), rfl⟩
            repeat (first | exact TmE.nil | refine TmE.cons (by first | exact AvLe.refl _ | exact AvLe.int (by omega)) ?_)⟩
        · obtain rfl : k = (prtAt n i).o := by omega
          have hst : a * (prtAt n i).o + (prtAt n i).o = (a + 1) * (prtAt n i).o := by rw [Nat.add_mul, Nat.one_mul]
          repeat' ((conv => whnf); first | refine Ob.g ?_ | refine Cases.y ?_ | refine Cases.n ?_ | refine Idx.g rfl ?_ | refine Idx.z rfl ?_ | refine DrawOb.start ?_ | refine TryF.f ?_ | refine TryF.next rfl ?_ | refine TryF.other ?_ | refine TryA.g ?_ | refine TryA.next rfl ?_ | refine TryA.other ?_ | refine TryS.g ?_ | refine TryS.next rfl ?_ | refine TryS.other ?_ | refine TryG.g ?_ | refine TryG.next rfl ?_)
          exact ⟨a + 1, [], hda, by show dn n i - (a + 1) < dn n i - a; omega, by
            refine ⟨?_, .cons rfl (.refl _) (.cons rfl (by rw [hst]; exact .refl _) .nil), rfl⟩
            repeat (first | exact TmE.nil | refine TmE.cons (by first | exact AvLe.refl _ | exact AvLe.int (by omega)) ?_)⟩
      · have hf : (fun q => chlL n (allZ n i a) q) = fun q => if q = 0 then ix n else .sl 1 Nat nsL (fun j => (allZ n i a).getD j 0) i := by
          funext q
          unfold chlL
          by_cases hq : q = 0
          · rw [if_pos hq, if_pos hq]
          · rw [if_neg hq, if_neg hq, if_neg h0, hlen]
        have h1 : 1 ≤ i := by
          rcases Nat.eq_zero_or_pos i with h | h
          · subst h; exact absurd rfl h0
          · exact h
        repeat' ((conv => whnf); first | refine Ob.g ?_ | refine Cases.y ?_ | refine Cases.n ?_ | refine Idx.g rfl ?_ | refine Idx.z rfl ?_ | refine DrawOb.start ?_ | refine TryF.f ?_ | refine TryF.next rfl ?_ | refine TryF.other ?_ | refine TryA.g ?_ | refine TryA.next rfl ?_ | refine TryA.other ?_ | refine TryS.g ?_ | refine TryS.next rfl ?_ | refine TryS.other ?_ | refine TryG.g ?_ | refine TryG.next rfl ?_)
        rw [hf]
        repeat' ((conv => whnf); first | refine Ob.g ?_ | refine Cases.y ?_ | refine Cases.n ?_ | refine Idx.g rfl ?_ | refine Idx.z rfl ?_ | refine DrawOb.start ?_ | refine TryF.f ?_ | refine TryF.next rfl ?_ | refine TryF.other ?_ | refine TryA.g ?_ | refine TryA.next rfl ?_ | refine TryA.other ?_ | refine TryS.g ?_ | refine TryS.next rfl ?_ | refine TryS.other ?_ | refine TryG.g ?_ | refine TryG.next rfl ?_)
        refine ⟨⟨Nat, fun k => ⟨[(0, int .i64 n), (6, .v (.c (.loc 0 0))), (7, .v (.c (.row 1))), (9, .v (.c (.loc 2 0))), (18, .v (.c (.sl 3 Prt prtL (prtAt n) (np n)))), (19, int .i64 (np n)), (20, int .i64 i), (24, .v (.c (.sl 2 (List Nat) (chlL n) (allZ n i) (dn n i)))), (25, int .i64 (dn n i)), (26, int .i64 a), (31, int .i64 (prtAt n i).o), (32, int .i64 k)], [(0, .st [ix (prtAt n i).r, ix (prtAt n i).o, ix (prtAt n i).q]), (1, .rw 2 33 false (List Nat) (chlL n) (allZ n (i + 1)) (a * (prtAt n i).o + k)), (2, .st [ix n, .sl 1 Nat nsL (fun j => (allZ n i a).getD j 0) i])], 3⟩, fun k => k ≤ (prtAt n i).o, fun k => (prtAt n i).o - k, ⟨0, [], Nat.zero_le _, Ent.g⟩, ?_⟩⟩
        intro k hk
        by_cases hdk : k < (prtAt n i).o
        · have hel := allZ_at (a := a) hdk
          have s2 := clone_sp (fun j => (allZ n i a).getD j 0) i h1 (by omega)
          generalize allZ n i a = z at *
          repeat' ((conv => whnf); first | refine Ob.g ?_ | refine Cases.y ?_ | refine Cases.n ?_ | refine Idx.g rfl ?_ | refine Idx.z rfl ?_ | refine DrawOb.start ?_ | refine TryF.f ?_ | refine TryF.next rfl ?_ | refine TryF.other ?_ | refine TryA.g ?_ | refine TryA.next rfl ?_ | refine TryA.other ?_ | refine TryS.g ?_ | refine TryS.next rfl ?_ | refine TryS.other ?_ | refine TryG.g ?_ | refine TryG.next rfl ?_ | refine SpR.call (s2) (ArgsLe.refl _) rfl rfl ?_)
          refine ⟨⟨fun _ => k, fun i' j hi' hj => ?_, fun _ _ _ _ => rfl, ?_⟩⟩
          · obtain rfl : i' = 0 := by omega
            obtain rfl : j = 0 := by have hj : j < 1 := hj; omega
            exact .refl _
          repeat' ((conv => whnf); first | refine Ob.g ?_ | refine Cases.y ?_ | refine Cases.n ?_ | refine Idx.g rfl ?_ | refine Idx.z rfl ?_ | refine DrawOb.start ?_ | refine TryF.f ?_ | refine TryF.next rfl ?_ | refine TryF.other ?_ | refine TryA.g ?_ | refine TryA.next rfl ?_ | refine TryA.other ?_ | refine TryS.g ?_ | refine TryS.next rfl ?_ | refine TryS.other ?_ | refine TryG.g ?_ | refine TryG.next rfl ?_)
          refine ⟨⟨fun _ => z ++ [k], fun i' j hi' hj => ?_, fun _ _ _ _ => chlL_pure _ _ _, ?_⟩⟩
          · obtain rfl : i' = 0 := by omega
            have hj : j < 2 := hj
            have : j = 0 ∨ j = 1 := by omega
            rcases this with rfl | rfl
            · exact .refl _
            · have e : chlL n (z ++ [k]) 1 = .sl 1 Nat nsL (fun j => (z ++ [k]).getD j 0) (i + 1) := by
                unfold chlL
                rw [if_neg (by omega), if_neg (by simp), List.length_append, hlen]; rfl
              rw [e]
              refine .sl fun i'' j' hi'' hj' => .int ?_
              unfold appZ
              split
              · show ((z.getD i'' 0 : Nat) : Int) = (((z ++ [k]).getD i'' 0 : Nat) : Int)
                rw [List.getD_eq_getElem?_getD, List.getD_eq_getElem?_getD, List.getElem?_append_left (by omega)]
              · show ((k : Nat) : Int) = (((z ++ [k]).getD i'' 0 : Nat) : Int)
                rw [List.getD_eq_getElem?_getD, List.getElem?_append_right (by omega), show i'' - z.length = 0 by omega]; rfl
          repeat' ((conv => whnf); first | refine Ob.g ?_ | refine Cases.y ?_ | refine Cases.n ?_ | refine Idx.g rfl ?_ | refine Idx.z rfl ?_ | refine DrawOb.start ?_ | refine TryF.f ?_ | refine TryF.next rfl ?_ | refine TryF.other ?_ | refine TryA.g ?_ | refine TryA.next rfl ?_ | refine TryA.other ?_ | refine TryS.g ?_ | refine TryS.next rfl ?_ | refine TryS.other ?_ | refine TryG.g ?_ | refine TryG.next rfl ?_)
          exact ⟨k + 1, [.r 7 1], hdk, by show (prtAt n i).o - (k + 1) < (prtAt n i).o - k; omega, by
            refine ⟨?_, .cons rfl (.refl _) (.cons rfl (blkLe_appN (c := 1) (fun i' hi' => by
              obtain rfl : i' = 0 := by omega
              exact hel.symm) (chlL_pl n)) (.cons rfl (.refl _) .nil)), rfl⟩
            repeat (first | exact TmE.nil | refine TmE.cons (by first | exact AvLe.refl _ | exact AvLe.int (by omega)) ?_)⟩
        · obtain rfl : k = (prtAt n i).o := by omega
          have hst : a * (prtAt n i).o + (prtAt n i).o = (a + 1) * (prtAt n i).o := by rw [Nat.add_mul, Nat.one_mul]
          repeat' ((conv => whnf); first | refine Ob.g ?_ | refine Cases.y ?_ | refine Cases.n ?_ | refine Idx.g rfl ?_ | refine Idx.z rfl ?_ | refine DrawOb.start ?_ | refine TryF.f ?_ | refine TryF.next rfl ?_ | refine TryF.other ?_ | refine TryA.g ?_ | refine TryA.next rfl ?_ | refine TryA.other ?_ | refine TryS.g ?_ | refine TryS.next rfl ?_ | refine TryS.other ?_ | refine TryG.g ?_ | refine TryG.next rfl ?_)
          exact ⟨a + 1, [], hda, by show dn n i - (a + 1) < dn n i - a; omega, by
            refine ⟨?_, .cons rfl (.refl _) (.cons rfl (by rw [hst]; exact .refl _) .nil), rfl⟩
            repeat (first | exact TmE.nil | refine TmE.cons (by first | exact AvLe.refl _ | exact AvLe.int (by omega)) ?_)⟩
    · obtain rfl : a = dn n i := by omega
      repeat' ((conv => whnf); first | refine Ob.g ?_ | refine Cases.y ?_ | refine Cases.n ?_ | refine Idx.g rfl ?_ | refine Idx.z rfl ?_ | refine DrawOb.start ?_ | refine TryF.f ?_ | refine TryF.next rfl ?_ | refine TryF.other ?_ | refine TryA.g ?_ | refine TryA.next rfl ?_ | refine TryA.other ?_ | refine TryS.g ?_ | refine TryS.next rfl ?_ | refine TryS.other ?_ | refine TryG.g ?_ | refine TryG.next rfl ?_)
      exact ⟨i + 1, [], hd, by show np n - (i + 1) < np n - i; omega, Ent.g⟩
  · obtain rfl : i = np n := by omega
    repeat' ((conv => whnf); first | refine Ob.g ?_ | refine Cases.y ?_ | refine Cases.n ?_ | refine Idx.g rfl ?_ | refine Idx.z rfl ?_ | refine DrawOb.start ?_ | refine TryF.f ?_ | refine TryF.next rfl ?_ | refine TryF.other ?_ | refine TryA.g ?_ | refine TryA.next rfl ?_ | refine TryA.other ?_ | refine TryS.g ?_ | refine TryS.next rfl ?_ | refine TryS.other ?_ | refine TryG.g ?_ | refine TryG.next rfl ?_)
    refine ⟨⟨_, _, rfl, rfl, ?_⟩⟩
    exact AvLe.refl _
theorem All_bad (n : Int) (h : n < 1 ∨ 60 < n) : Sp CX 40 [int .i64 n] (.tup [.c (.x (.slice none 0 0)), .c (ix 2)]) := by
  have s0 := dwi_f h
  clear h
  refine fn_sp (C := CX) [] [] tysX_ok mixed Tryd.func40 rfl (by kernel_rfl) Tryd.ntmps40 rfl rfl ?_
  repeat' ((conv => whnf); first | refine Ob.g ?_ | refine Cases.y ?_ | refine Cases.n ?_ | refine Idx.g rfl ?_ | refine Idx.z rfl ?_ | refine DrawOb.start ?_ | refine TryF.f ?_ | refine TryF.next rfl ?_ | refine TryF.other ?_ | refine TryA.g ?_ | refine TryA.next rfl ?_ | refine TryA.other ?_ | refine TryS.g ?_ | refine TryS.next rfl ?_ | refine TryS.other ?_ | refine TryG.g ?_ | refine TryG.next rfl ?_ | refine Sp.g (s0) ?_)
  refine ⟨⟨_, _, rfl, rfl, ?_⟩⟩
  exact AvLe.refl _
end Go.Proofs.YtagigjppbabpkaaDoor

/- Dirichlet characters: quadratic characters, walked. -/
namespace HP
open Go.Proofs.YtagigjppbabpkaaDoor
def quE (d : Int) : Int := if d = 0 ∨ d < -60 ∨ 60 < d then 2 else if (fundOut d).2.2 ≠ 0 ∨ (fundOut d).2.1 ≠ 1 then 15 else 0
def quV (d a : Int) : Bool × Nat × Nat := if kro d a < 0 then (false, 1, 2) else (false, 0, 1)
def quW (d : Int) (i : Nat) : Int := ((quV d (genT d.natAbs (prtAt d.natAbs i))).2.1 * (prtAt d.natAbs i).o / (quV d (genT d.natAbs (prtAt d.natAbs i))).2.2 : Nat)
theorem quV_bd (d a : Int) : 1 ≤ (quV d a).2.2 ∧ (quV d a).2.2 ≤ 1000 ∧ (quV d a).2.1 ≤ 1000 := by
  unfold quV
  split <;> simp
end HP
namespace Go.Proofs.YtagigjppbabpkaaDoor
open Go Go.RowKit Go.VG HP
def dP (d : Int) : AV := .v (.c (.ptr 1 fun j => getL [ix d] (0 + j)))
theorem qua1_sp (d a : Int) (h1 : -100 ≤ d) (h2 : d ≤ 100) (h3 : 0 ≤ a) (h4 : a ≤ 100) : Sp CX 65 [int .i64 a, dP d] (.v (ruT (quV d a))) := by
  have s := kron_sp d a (by omega) (by omega) (by omega) (by omega)
  unfold quV
  generalize kro d a = k at *
  by_cases hk : k < 0
  · rw [if_pos hk]
    refine fn_sp (C := CX) [] [] tysX_ok mixed Tryd.func65 rfl (by kernel_rfl) Tryd.ntmps65 rfl rfl ?_
    repeat' ((conv => whnf); first | refine Ob.g ?_ | refine Cases.y ?_ | refine Cases.n ?_ | refine Idx.g rfl ?_ | refine Idx.z rfl ?_ | refine DrawOb.start ?_ | refine TryF.f ?_ | refine TryF.next rfl ?_ | refine TryF.other ?_ | refine TryA.g ?_ | refine TryA.next rfl ?_ | refine TryA.other ?_ | refine TryS.g ?_ | refine TryS.next rfl ?_ | refine TryS.other ?_ | refine TryG.g ?_ | refine TryG.next rfl ?_ | refine Sp.g (s) ?_)
    refine ⟨⟨_, _, rfl, rfl, ?_⟩⟩
    exact AvLe.refl _
  · rw [if_neg hk]
    refine fn_sp (C := CX) [] [] tysX_ok mixed Tryd.func65 rfl (by kernel_rfl) Tryd.ntmps65 rfl rfl ?_
    repeat' ((conv => whnf); first | refine Ob.g ?_ | refine Cases.y ?_ | refine Cases.n ?_ | refine Idx.g rfl ?_ | refine Idx.z rfl ?_ | refine DrawOb.start ?_ | refine TryF.f ?_ | refine TryF.next rfl ?_ | refine TryF.other ?_ | refine TryA.g ?_ | refine TryA.next rfl ?_ | refine TryA.other ?_ | refine TryS.g ?_ | refine TryS.next rfl ?_ | refine TryS.other ?_ | refine TryG.g ?_ | refine TryG.next rfl ?_ | refine Sp.g (s) ?_)
    refine ⟨⟨_, _, rfl, rfl, ?_⟩⟩
    exact AvLe.refl _
set_option maxHeartbeats 4000000 in
theorem Quadratic_sp (d : Int) (X : Nat → Int) : Sp CX 29 [int .i64 d] (.tup [if quE d = 0 then chV d.natAbs (quW d) (np d.natAbs) else chV 0 X 0, .c (ix (quE d))]) := by
  by_cases hr : d = 0 ∨ d < -60 ∨ 60 < d
  · have e : quE d = 2 := by unfold quE; rw [if_pos hr]
    rw [e, if_neg (by omega)]
    clear e
    by_cases h0 : d = 0
    · subst h0
      refine fn_sp (C := CX) [] [] tysX_ok mixed Tryd.func29 rfl (by kernel_rfl) Tryd.ntmps29 rfl rfl ?_
      repeat' ((conv => whnf); first | refine Ob.g ?_ | refine Cases.y ?_ | refine Cases.n ?_ | refine Idx.g rfl ?_ | refine Idx.z rfl ?_ | refine DrawOb.start ?_ | refine TryF.f ?_ | refine TryF.next rfl ?_ | refine TryF.other ?_ | refine TryA.g ?_ | refine TryA.next rfl ?_ | refine TryA.other ?_ | refine TryS.g ?_ | refine TryS.next rfl ?_ | refine TryS.other ?_ | refine TryG.g ?_ | refine TryG.next rfl ?_)
      refine ⟨⟨_, _, rfl, rfl, ?_⟩⟩
      exact chz_le
    · by_cases h1 : d < -60
      · refine fn_sp (C := CX) [] [] tysX_ok mixed Tryd.func29 rfl (by kernel_rfl) Tryd.ntmps29 rfl rfl ?_
        repeat' ((conv => whnf); first | refine Ob.g ?_ | refine Cases.y ?_ | refine Cases.n ?_ | refine Idx.g rfl ?_ | refine Idx.z rfl ?_ | refine DrawOb.start ?_ | refine TryF.f ?_ | refine TryF.next rfl ?_ | refine TryF.other ?_ | refine TryA.g ?_ | refine TryA.next rfl ?_ | refine TryA.other ?_ | refine TryS.g ?_ | refine TryS.next rfl ?_ | refine TryS.other ?_ | refine TryG.g ?_ | refine TryG.next rfl ?_)
        refine ⟨⟨_, _, rfl, rfl, ?_⟩⟩
        exact chz_le
      · refine fn_sp (C := CX) [] [] tysX_ok mixed Tryd.func29 rfl (by kernel_rfl) Tryd.ntmps29 rfl rfl ?_
        repeat' ((conv => whnf); first | refine Ob.g ?_ | refine Cases.y ?_ | refine Cases.n ?_ | refine Idx.g rfl ?_ | refine Idx.z rfl ?_ | refine DrawOb.start ?_ | refine TryF.f ?_ | refine TryF.next rfl ?_ | refine TryF.other ?_ | refine TryA.g ?_ | refine TryA.next rfl ?_ | refine TryA.other ?_ | refine TryS.g ?_ | refine TryS.next rfl ?_ | refine TryS.other ?_ | refine TryG.g ?_ | refine TryG.next rfl ?_)
        refine ⟨⟨_, _, rfl, rfl, ?_⟩⟩
        exact chz_le
  · have s0 := fund_sp d
    have heq : quE d = if (fundOut d).2.2 ≠ 0 ∨ (fundOut d).2.1 ≠ 1 then 15 else 0 := by unfold quE; rw [if_neg hr]
    generalize fundOut d = o at *
    by_cases h1 : o.2.2 ≠ 0
    · have e15 : quE d = 15 := heq.trans (if_pos (.inl h1))
      rw [e15, if_neg (by omega)]
      clear heq e15
      refine fn_sp (C := CX) [] [] tysX_ok mixed Tryd.func29 rfl (by kernel_rfl) Tryd.ntmps29 rfl rfl ?_
      repeat' ((conv => whnf); first | refine Ob.g ?_ | refine Cases.y ?_ | refine Cases.n ?_ | refine Idx.g rfl ?_ | refine Idx.z rfl ?_ | refine DrawOb.start ?_ | refine TryF.f ?_ | refine TryF.next rfl ?_ | refine TryF.other ?_ | refine TryA.g ?_ | refine TryA.next rfl ?_ | refine TryA.other ?_ | refine TryS.g ?_ | refine TryS.next rfl ?_ | refine TryS.other ?_ | refine TryG.g ?_ | refine TryG.next rfl ?_ | refine Sp.g (s0) ?_)
      refine ⟨⟨_, _, rfl, rfl, ?_⟩⟩
      exact chz_le
    · by_cases h2 : o.2.1 ≠ 1
      · have e15 : quE d = 15 := heq.trans (if_pos (.inr h2))
        rw [e15, if_neg (by omega)]
        clear heq e15
        refine fn_sp (C := CX) [] [] tysX_ok mixed Tryd.func29 rfl (by kernel_rfl) Tryd.ntmps29 rfl rfl ?_
        repeat' ((conv => whnf); first | refine Ob.g ?_ | refine Cases.y ?_ | refine Cases.n ?_ | refine Idx.g rfl ?_ | refine Idx.z rfl ?_ | refine DrawOb.start ?_ | refine TryF.f ?_ | refine TryF.next rfl ?_ | refine TryF.other ?_ | refine TryA.g ?_ | refine TryA.next rfl ?_ | refine TryA.other ?_ | refine TryS.g ?_ | refine TryS.next rfl ?_ | refine TryS.other ?_ | refine TryG.g ?_ | refine TryG.next rfl ?_ | refine Sp.g (s0) ?_)
        refine ⟨⟨_, _, rfl, rfl, ?_⟩⟩
        exact chz_le
      · have e0 : quE d = 0 := heq.trans (if_neg (by omega))
        rw [e0, if_pos rfl]
        clear heq e0
        have hgl : ∀ i, i < np d.natAbs → genT d.natAbs (prtAt d.natAbs i) ≤ 60 := fun i hi => by have := genT_lt (prt_z (n := d.natAbs) (by omega) hi); omega
        have s2 := from_sp d.natAbs (by omega) (by omega) (fun a => 0 ≤ a ∧ a ≤ 60) (quV d) (quW d) (fun i hi => by have := hgl i hi; omega) (fun i hi => quV_bd _ _) (fun i hi => rfl)
        have sF : ∀ a : Int, (0 ≤ a ∧ a ≤ 60) → Sp CX 65 (int .i64 a :: [dP d]) (.v (ruT (quV d a))) := fun a ha => qua1_sp d a (by omega) (by omega) ha.1 (by omega)
        have hok : CallOk CX.P 65 := callOk Tryd.func65 (by kernel_rfl) (by kernel_rfl)
        clear hgl
        generalize quW d = W at *
        have hn : (d.natAbs : Int) = if d < -d then -d else d := by split <;> omega
        refine fn_sp (C := CX) [(1000006,0)] [] tysX_ok mixed Tryd.func29 rfl (by kernel_rfl) Tryd.ntmps29 rfl rfl ?_
        repeat' ((conv => whnf); first | refine Ob.g ?_ | refine Cases.y ?_ | refine Cases.n ?_ | refine Idx.g rfl ?_ | refine Idx.z rfl ?_ | refine DrawOb.start ?_ | refine TryF.f ?_ | refine TryF.next rfl ?_ | refine TryF.other ?_ | refine TryA.g ?_ | refine TryA.next rfl ?_ | refine TryA.other ?_ | refine TryS.g ?_ | refine TryS.next rfl ?_ | refine TryS.other ?_ | refine TryG.g ?_ | refine TryG.next rfl ?_ | refine Sp.g (s0) ?_ | (refine FnR.mk (fun a => 0 ≤ a ∧ a ≤ 60) (fun a => .v (ruT (quV d a))) hok sF (fun _ _ => plain_ru _) ?_) | refine Sp.call (s2) (.cons (AvLe.int hn.symm) (.cons (.refl _) .nil)) rfl (AvLe.refl _) ?_)
        refine ⟨⟨_, _, rfl, rfl, ?_⟩⟩
        exact AvLe.refl _
end Go.Proofs.YtagigjppbabpkaaDoor

