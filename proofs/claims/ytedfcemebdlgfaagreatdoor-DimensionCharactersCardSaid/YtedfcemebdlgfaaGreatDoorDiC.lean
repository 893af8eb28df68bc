/- Dirichlet characters: the parts of a modulus, walked. -/
import Derived.Test.YtedfcemebdlgfaaGreatDoorSpA
import Derived.Test.YtedfcemebdlgfaaGreatDoorPkDiA
namespace Go.Proofs.YtedfcemebdlgfaaGreatDoor
open Go Go.RowKit Go.VG HP
theorem inv_ok {g q : Nat} (hq : 1 ≤ q) (hq2 : q ≤ 2147483647) (h : Nat.gcd g q = 1) : (invOut (g : Int) (q : Int)).2 = 0 := by
  have hg : Int.gcd (g : Int) (q : Int) = 1 := by rw [Int.gcd_natCast_natCast]; exact h
  unfold invOut
  rw [if_neg (by omega), if_neg (fun x => x hg)]
theorem inv_bad {g q : Nat} (hq : 1 ≤ q) (hq2 : q ≤ 2147483647) (h : Nat.gcd g q ≠ 1) : (invOut (g : Int) (q : Int)).2 = 9 := by
  have hg : Int.gcd (g : Int) (q : Int) ≠ 1 := by rw [Int.gcd_natCast_natCast]; exact h
  unfold invOut
  rw [if_neg (by omega), if_pos hg]
theorem order_sp1 (g q d : Nat) (hq : 1 ≤ q) (hq2 : q ≤ 2147483647) (h : Nat.gcd g q = 1) (ho : ordO g q = some d) (hdv : d ∣ (phi q).toNat) : Sp CX 103 [int .i64 g, int .i64 q] (.tup [.c (ix d), .c (ix 0)]) :=
  .of_val (vs0 := [.int .i64 g, .int .i64 q]) (callOk Tryz.func103 (by kernel_rfl) (by kernel_rfl)) rfl (fun _ _ _ h => argsX h) (fun _ _ => ⟨[_, _], rfl, ⟨rfl, rfl⟩, ⟨rfl, rfl⟩, trivial⟩) fun w _ => order_ok g q d w hq hq2 (inv_ok hq hq2 h) (ordO_isOrd ho) hdv
theorem order_sp0 (g q : Nat) (hq : 1 ≤ q) (hq2 : q ≤ 2147483647) (h : Nat.gcd g q ≠ 1) : Sp CX 103 [int .i64 g, int .i64 q] (.tup [.c (ix 0), .c (ix 9)]) :=
  .of_val (vs0 := [.int .i64 g, .int .i64 q]) (callOk Tryz.func103 (by kernel_rfl) (by kernel_rfl)) rfl (fun _ _ _ h => argsX h) (fun _ _ => ⟨[_, _], rfl, ⟨rfl, rfl⟩, ⟨rfl, rfl⟩, trivial⟩) fun w _ => by
    have e := inv_bad hq hq2 h
    have := order_err g q w (by rw [e]; decide)
    rw [e] at this
    exact this
set_option maxHeartbeats 1000000 in
theorem primitive_sp (q o r : Nat) (hq : 1 ≤ q) (hq2 : q ≤ 60) (hr : 1 ≤ r) (h1 : Nat.gcd r q = 1) (h2 : ordO r q = some o) (h3 : o ∣ (phi q).toNat) (hr2 : r ≤ 1000)
    (hb : ∀ g, 1 ≤ g → g < r → Nat.gcd g q = 1 → ∃ d, ordO g q = some d ∧ d ≠ o ∧ d ∣ (phi q).toNat) : Sp CX 96 [int .i64 q, int .i64 o] (int .i64 r) := by
  refine fn_sp (C := CX) [] [] tysX_ok mixed Tryz.func96 rfl (by kernel_rfl) Tryz.ntmps96 rfl rfl ?_
  repeat' ((conv => whnf); first | refine Ob.g ?_ | refine Cases.y ?_ | refine Cases.n ?_ | refine Idx.g rfl ?_ | refine Idx.z rfl ?_ | refine DrawOb.start ?_ | refine TryF.f ?_ | refine TryF.next rfl ?_ | refine TryF.other ?_ | refine TryA.g ?_ | refine TryA.next rfl ?_ | refine TryA.other ?_ | refine TryS.g ?_ | refine TryS.next rfl ?_ | refine TryS.other ?_ | refine TryG.g ?_ | refine TryG.next rfl ?_)
  refine ⟨⟨Nat, fun g => ⟨[(0, int .i64 q), (1, int .i64 o), (5, int .i64 g)], [], 0⟩, fun g => 1 ≤ g ∧ g ≤ r, fun g => r - g, ⟨1, [], ⟨Nat.le_refl _, hr⟩, Ent.g⟩, ?_⟩⟩
  rintro g ⟨k1, k2⟩
  by_cases hg : g = r
  · subst hg
    have s := order_sp1 g q o hq (by omega) h1 h2 h3
    clear hb h1 h2 h3
    repeat' ((conv => whnf); first | refine Ob.g ?_ | refine Cases.y ?_ | refine Cases.n ?_ | refine Idx.g rfl ?_ | refine Idx.z rfl ?_ | refine DrawOb.start ?_ | refine TryF.f ?_ | refine TryF.next rfl ?_ | refine TryF.other ?_ | refine TryA.g ?_ | refine TryA.next rfl ?_ | refine TryA.other ?_ | refine TryS.g ?_ | refine TryS.next rfl ?_ | refine TryS.other ?_ | refine TryG.g ?_ | refine TryG.next rfl ?_ | refine Sp.g (s) ?_)
    refine ⟨⟨_, _, rfl, rfl, AvLe.int ?_⟩⟩
    rfl
  · by_cases hc : Nat.gcd g q = 1
    · obtain ⟨d, d1, d2, d3⟩ := hb g k1 (by omega) hc
      have s := order_sp1 g q d hq (by omega) hc d1 d3
      clear hb h1 h2 h3 d1 d3
      repeat' ((conv => whnf); first | refine Ob.g ?_ | refine Cases.y ?_ | refine Cases.n ?_ | refine Idx.g rfl ?_ | refine Idx.z rfl ?_ | refine DrawOb.start ?_ | refine TryF.f ?_ | refine TryF.next rfl ?_ | refine TryF.other ?_ | refine TryA.g ?_ | refine TryA.next rfl ?_ | refine TryA.other ?_ | refine TryS.g ?_ | refine TryS.next rfl ?_ | refine TryS.other ?_ | refine TryG.g ?_ | refine TryG.next rfl ?_ | refine Sp.g (s) ?_)
      exact ⟨g + 1, [], ⟨by omega, by omega⟩, by show r - (g + 1) < r - g; omega, Ent.g⟩
    · have s := order_sp0 g q hq (by omega) hc
      clear hb h1 h2 h3
      repeat' ((conv => whnf); first | refine Ob.g ?_ | refine Cases.y ?_ | refine Cases.n ?_ | refine Idx.g rfl ?_ | refine Idx.z rfl ?_ | refine DrawOb.start ?_ | refine TryF.f ?_ | refine TryF.next rfl ?_ | refine TryF.other ?_ | refine TryA.g ?_ | refine TryA.next rfl ?_ | refine TryA.other ?_ | refine TryS.g ?_ | refine TryS.next rfl ?_ | refine TryS.other ?_ | refine TryG.g ?_ | refine TryG.next rfl ?_ | refine Sp.g (s) ?_)
      exact ⟨g + 1, [], ⟨by omega, by omega⟩, by show r - (g + 1) < r - g; omega, Ent.g⟩
theorem flat_take {α β : Type} (f : α → List β) {l : List α} {i : Nat} {x : α} (h : l[i]? = some x) : (l.take (i + 1)).flatMap f = (l.take i).flatMap f ++ f x := by
  obtain ⟨hi, he⟩ := List.getElem?_eq_some_iff.1 h
  rw [List.take_succ_eq_append_getElem hi, List.flatMap_append, he]
  simp
theorem flat_at {α β : Type} (f : α → List β) {l : List α} {i j : Nat} {x : α} {y : β} (h : l[i]? = some x) (hj : (f x)[j]? = some y) : (l.flatMap f)[((l.take i).flatMap f).length + j]? = some y := by
  obtain ⟨hi, he⟩ := List.getElem?_eq_some_iff.1 h
  have e : l = l.take i ++ x :: l.drop (i + 1) := by
    rw [← he, ← List.drop_eq_getElem_cons hi, List.take_append_drop]
  have e2 : l.flatMap f = (l.take i).flatMap f ++ (f x ++ (l.drop (i + 1)).flatMap f) := by
    conv => lhs; rw [e]
    rw [List.flatMap_append, List.flatMap_cons]
  rw [e2, List.getElem?_append_right (by omega), Nat.add_sub_cancel_left, List.getElem?_append_left (List.getElem?_eq_some_iff.1 hj).1]
  exact hj
theorem blkLe_appN {k n c : Nat} {e : TypeId} {u : Bool} {α : Type} {mk : α → Nat → Leaf} {Z Y : Nat → α} (h : ∀ i, i < c → Y i = Z (n + i)) (hp : ∀ z j, pureL (mk z j) = true) : BlkLe (.rw k e u α mk (appZ α Z Y n) (n + c)) (.rw k e u α mk Z (n + c)) :=
  .rw (fun i j hi _ => by
    unfold appZ
    split
    · exact .refl _
    · rw [h _ (by omega), show n + (i - n) = i by omega]
      exact .refl _) (fun _ _ _ _ => hp _ _)
def prtL (P : Prt) (j : Nat) : Leaf := if j = 0 then ix P.r else if j = 1 then ix P.o else ix P.q
theorem prtL_pure (P : Prt) (j : Nat) : pureL (prtL P j) = true := by unfold prtL; split; rfl; split <;> rfl
theorem prtL_pureN (P : Prt) (j : Nat) : pureN (prtL P j) = true := by unfold prtL; split; rfl; split <;> rfl
theorem facs_C60 {n : Nat} (h1 : 1 ≤ n) (h2 : n ≤ 60) : facs n = facC n := facs_C h1 (by omega)
theorem cnt_le {α β : Type} (f : α → List β) (l : List α) (i : Nat) : ((l.take i).flatMap f).length ≤ (l.flatMap f).length := by
  conv => rhs; rw [← List.take_append_drop i l, List.flatMap_append, List.length_append]
  exact Nat.le_add_right _ _
theorem np_chk : allB 61 (fun n => Nat.ble (np n) 3) = true := by decide +kernel
theorem np_le {n : Nat} (hn : n ≤ 60) : np n ≤ 3 := Nat.le_of_ble_eq_true (allB_at np_chk (show n < 61 by omega))
theorem leaf3 {P : Prt} {r o q : Int} (h1 : r = P.r) (h2 : o = P.o) (h3 : q = P.q) : ∀ j, j < 3 → LeafLe (getL [ix r, ix o, ix q] j) (prtL P j)
  | 0, _ => .int h1
  | 1, _ => .int h2
  | 2, _ => .int h3
theorem leaf6 {P Q : Prt} {r o q r' o' q' : Int} (h1 : r = P.r) (h2 : o = P.o) (h3 : q = P.q) (g1 : r' = Q.r) (g2 : o' = Q.o) (g3 : q' = Q.q) : ∀ i j, i < 2 → j < 3 → LeafLe (getL [ix r, ix o, ix q, ix r', ix o', ix q'] (i * 3 + j)) (prtL (if i = 0 then P else Q) j)
  | 0, 0, _, _ => .int h1
  | 0, 1, _, _ => .int h2
  | 0, 2, _, _ => .int h3
  | 1, 0, _, _ => .int g1
  | 1, 1, _, _ => .int g2
  | 1, 2, _, _ => .int g3
set_option maxHeartbeats 8000000 in
theorem parts_sp (n : Nat) (Z : Nat → Prt) (len : Nat) (hZ : ∀ i x, (prts n)[i]? = some x → Z i = x) (hlen : len = np n) (hn0 : 1 ≤ n) (hn : n ≤ 60) : Sp CX 79 [int .i64 n] (.v (.c (.sl 3 Prt prtL Z len))) := by
  obtain ⟨F, nf, hF, hnf⟩ := zOf (facs n) (0, 0)
  have s0 := factor_sp n F nf (fun i p e h => hF i (p, e) h) hnf hn0 (by omega)
  have hff := facs_C60 hn0 hn
  have hll : nf ≤ 1000 := by have := facs_len (n := n) (by omega); omega
  rw [hff] at hF hnf
  refine fn_sp (C := CX) [] [0] tysX_ok mixed Tryz.func79 rfl (by kernel_rfl) Tryz.ntmps79 rfl rfl ?_
  repeat' ((conv => whnf); first | refine Ob.g ?_ | refine Cases.y ?_ | refine Cases.n ?_ | refine Idx.g rfl ?_ | refine Idx.z rfl ?_ | refine DrawOb.start ?_ | refine TryF.f ?_ | refine TryF.next rfl ?_ | refine TryF.other ?_ | refine TryA.g ?_ | refine TryA.next rfl ?_ | refine TryA.other ?_ | refine TryS.g ?_ | refine TryS.next rfl ?_ | refine TryS.other ?_ | refine TryG.g ?_ | refine TryG.next rfl ?_ | refine Sp.g (s0) ?_)
  refine ⟨⟨Nat × Nat, fun (i, m) => ⟨[(0, int .i64 n), (3, .v (.c (.row 0))), (15, .v (.c (.sl 2 (Nat × Nat) ppL F nf))), (16, int .i64 nf), (17, int .i64 i)], [(0, .rw 3 93 false Prt prtL Z m)], 1⟩, fun (i, m) => i ≤ nf ∧ Hid (m = (((facC n).take i).flatMap partOf).length), fun (i, _) => nf - i, ⟨(0, 0), [.n 3 0 3 93], ⟨Nat.zero_le _, rfl⟩, Ent.g⟩, ?_⟩⟩
  rintro ⟨i, m⟩ ⟨k1, hm⟩
  have hm := hm.out
  have hml : m ≤ 3 := by
    have := cnt_le partOf (facC n) i
    have := np_le hn
    unfold np prts at this
    omega
  by_cases hi : i < nf
  · have hpe : (facC n)[i]? = some ((F i).1, (F i).2) := by
      have h := List.getElem?_eq_getElem (l := facC n) (i := i) (by omega)
      rw [h, hF i _ h]
    have hmem : ((F i).1, (F i).2) ∈ facC n := List.mem_of_getElem? hpe
    obtain ⟨b1, b2, b3, b4, b5, b6, b7⟩ := facs_bounds (show 0 < n by omega) (by rw [hff]; exact hmem)
    have htk := flat_take partOf hpe
    have hat : ∀ (j : Nat) (y : Prt), (partOf ((F i).1, (F i).2))[j]? = some y → Z (m + j) = y := fun j y h => hZ _ _ (by rw [hm]; exact flat_at partOf hpe h)
    have hcn : (((facC n).take (i + 1)).flatMap partOf).length = m + (partOf ((F i).1, (F i).2)).length := by rw [htk, List.length_append, hm]
    have HROOT := fun h2 => root_at hn0 hn hmem h2
    have HPM : ∀ P ∈ partOf ((F i).1, (F i).2), P ∈ prts n := fun P hP => List.mem_flatMap.2 ⟨_, hmem, hP⟩
    clear hm htk hF hmem s0 b1 hpe
    repeat' ((conv => whnf); first | refine Ob.g ?_ | refine Cases.y ?_ | refine Cases.n ?_ | refine Idx.g rfl ?_ | refine Idx.z rfl ?_ | refine DrawOb.start ?_ | refine TryF.f ?_ | refine TryF.next rfl ?_ | refine TryF.other ?_ | refine TryA.g ?_ | refine TryA.next rfl ?_ | refine TryA.other ?_ | refine TryS.g ?_ | refine TryS.next rfl ?_ | refine TryS.other ?_ | refine TryG.g ?_ | refine TryG.next rfl ?_)
    refine ⟨⟨Nat × Nat, fun (k, q) => ⟨[(0, int .i64 n), (3, .v (.c (.row 0))), (7, .v (.c (.loc 1 0))), (8, int .i64 q), (15, .v (.c (.sl 2 (Nat × Nat) ppL F nf))), (16, int .i64 nf), (17, int .i64 i), (22, int .i64 (F i).2), (23, int .i64 k)], [(1, .st [ix (F i).1, ix (F i).2]), (0, .rw 3 93 false Prt prtL Z m)], 2⟩, fun (k, q) => k ≤ (F i).2 ∧ Hid (q = (F i).1 ^ k), fun (k, _) => (F i).2 - k, ⟨(0, 1), [], ⟨Nat.zero_le _, rfl⟩, Ent.g⟩, ?_⟩⟩
    rintro ⟨k, q⟩ ⟨k2, hq⟩
    by_cases hk : k < (F i).2
    · have h1 : (F i).1 ^ (k + 1) ≤ (F i).1 ^ (F i).2 := Nat.pow_le_pow_right (by omega) hk
      rw [Nat.pow_succ, ← hq.out] at h1
      have h2 : ((q * (F i).1 : Nat) : Int) ≤ 60 := by omega
      have h3 : 0 ≤ ((q * (F i).1 : Nat) : Int) := Int.natCast_nonneg _
      rw [Int.natCast_mul] at h2 h3
      have hq2 : Hid (q * (F i).1 = (F i).1 ^ (k + 1)) := Lib.hid (by rw [Nat.pow_succ, ← hq.out])
      clear h1 HROOT hat hcn
      repeat' ((conv => whnf); first | refine Ob.g ?_ | refine Cases.y ?_ | refine Cases.n ?_ | refine Idx.g rfl ?_ | refine Idx.z rfl ?_ | refine DrawOb.start ?_ | refine TryF.f ?_ | refine TryF.next rfl ?_ | refine TryF.other ?_ | refine TryA.g ?_ | refine TryA.next rfl ?_ | refine TryA.other ?_ | refine TryS.g ?_ | refine TryS.next rfl ?_ | refine TryS.other ?_ | refine TryG.g ?_ | refine TryG.next rfl ?_)
      exact ⟨(k + 1, q * (F i).1), [], ⟨hk, hq2⟩, by show (F i).2 - (k + 1) < (F i).2 - k; omega, Ent.g⟩
    · obtain rfl : k = (F i).2 := by omega
      have hq := hq.out
      have hq60 : q ≤ 60 := by omega
      rw [← hq] at HROOT
      by_cases c1 : 2 < (F i).1
      · have hpo : partOf ((F i).1, (F i).2) = [⟨rootT q (q / (F i).1 * ((F i).1 - 1)), q / (F i).1 * ((F i).1 - 1), q⟩] := by
          unfold partOf
          rw [if_pos c1, ← hq]
        obtain ⟨r1, r2, r3, r4, r5, r6, r7⟩ := HROOT c1
        have hot : ((q : Int)).tdiv (F i).1 * ((F i).1 - 1) = ((q / (F i).1 * ((F i).1 - 1) : Nat) : Int) := by
          rw [Int.natCast_mul, ← Int.ofNat_tdiv]
          congr 1
          omega
        have hdq : ((q : Int)).tdiv (F i).1 = ((q / (F i).1 : Nat) : Int) := (Int.ofNat_tdiv _ _).symm
        have hdl : q / (F i).1 ≤ q := Nat.div_le_self _ _
        rw [hpo] at hat hcn
        have hin : (⟨rootT q (q / (F i).1 * ((F i).1 - 1)), q / (F i).1 * ((F i).1 - 1), q⟩ : Prt) ∈ prts n := HPM _ (by rw [hpo]; exact List.mem_singleton.2 rfl)
        have ho60 := (part_ok hn hin).o60
        have hr60 := (part_ok hn hin).r60
        simp only at ho60 hr60
        generalize q / (F i).1 * ((F i).1 - 1) = o at *
        generalize rootT q o = r at *
        have s1 := primitive_sp q o r (by omega) hq60 r1 r2 r3 r4 (by omega) r7
        have hz := hat 0 _ rfl
        have HCN := Lib.hid hcn
        clear hat hcn HROOT hpo hq r2 r3 r4 r7 hin HPM
        repeat' ((conv => whnf); first | refine Ob.g ?_ | refine Cases.y ?_ | refine Cases.n ?_ | refine Idx.g rfl ?_ | refine Idx.z rfl ?_ | refine DrawOb.start ?_ | refine TryF.f ?_ | refine TryF.next rfl ?_ | refine TryF.other ?_ | refine TryA.g ?_ | refine TryA.next rfl ?_ | refine TryA.other ?_ | refine TryS.g ?_ | refine TryS.next rfl ?_ | refine TryS.other ?_ | refine TryG.g ?_ | refine TryG.next rfl ?_ | refine Sp.call (s1) (.cons (.refl _) (.cons (AvLe.int hot) .nil)) rfl (AvLe.refl _) ?_)
        refine ⟨⟨fun _ => ⟨r, o, q⟩, fun i j hi hj => ?_, fun _ _ _ _ => prtL_pureN _ _, ?_⟩⟩
        · obtain rfl : i = 0 := by omega
          match j, hj with
          | 0, _ => exact .int rfl
          | 1, _ => exact .int hot
          | 2, _ => exact .int rfl
        repeat' ((conv => whnf); first | refine Ob.g ?_ | refine Cases.y ?_ | refine Cases.n ?_ | refine Idx.g rfl ?_ | refine Idx.z rfl ?_ | refine DrawOb.start ?_ | refine TryF.f ?_ | refine TryF.next rfl ?_ | refine TryF.other ?_ | refine TryA.g ?_ | refine TryA.next rfl ?_ | refine TryA.other ?_ | refine TryS.g ?_ | refine TryS.next rfl ?_ | refine TryS.other ?_ | refine TryG.g ?_ | refine TryG.next rfl ?_)
        exact ⟨(i + 1, m + 1), [.r 3 0], ⟨by omega, HCN.out.symm⟩, by show nf - (i + 1) < nf - i; omega, by
          refine ⟨?_, .cons rfl (blkLe_appN (c := 1) (fun i hi => by
            obtain rfl : i = 0 := by omega
            exact hz.symm) prtL_pure) .nil, rfl⟩
          repeat (first | exact TmE.nil | refine TmE.cons (by first | exact AvLe.refl _ | exact AvLe.int (by omega)) ?_)⟩
      · have hF2 : (F i).1 = 2 := by omega
        clear HROOT
        by_cases c2 : q = 4
        · have hpo : partOf ((F i).1, (F i).2) = [⟨3, 2, 4⟩] := by
            unfold partOf
            rw [if_neg c1, if_pos (by rw [← hq]; exact c2)]
          rw [hpo] at hat hcn
          have hz := hat 0 _ rfl
          have HCN := Lib.hid hcn
          clear hat hcn hpo hq HPM
          repeat' ((conv => whnf); first | refine Ob.g ?_ | refine Cases.y ?_ | refine Cases.n ?_ | refine Idx.g rfl ?_ | refine Idx.z rfl ?_ | refine DrawOb.start ?_ | refine TryF.f ?_ | refine TryF.next rfl ?_ | refine TryF.other ?_ | refine TryA.g ?_ | refine TryA.next rfl ?_ | refine TryA.other ?_ | refine TryS.g ?_ | refine TryS.next rfl ?_ | refine TryS.other ?_ | refine TryG.g ?_ | refine TryG.next rfl ?_)
          refine ⟨⟨fun _ => ⟨3, 2, 4⟩, fun i j hi hj => ?_, fun _ _ _ _ => prtL_pureN _ _, ?_⟩⟩
          · obtain rfl : i = 0 := by omega
            match j, hj with
            | 0, _ => exact .refl _
            | 1, _ => exact .refl _
            | 2, _ => exact .refl _
          repeat' ((conv => whnf); first | refine Ob.g ?_ | refine Cases.y ?_ | refine Cases.n ?_ | refine Idx.g rfl ?_ | refine Idx.z rfl ?_ | refine DrawOb.start ?_ | refine TryF.f ?_ | refine TryF.next rfl ?_ | refine TryF.other ?_ | refine TryA.g ?_ | refine TryA.next rfl ?_ | refine TryA.other ?_ | refine TryS.g ?_ | refine TryS.next rfl ?_ | refine TryS.other ?_ | refine TryG.g ?_ | refine TryG.next rfl ?_)
          exact ⟨(i + 1, m + 1), [.r 3 0], ⟨by omega, HCN.out.symm⟩, by show nf - (i + 1) < nf - i; omega, by
            refine ⟨?_, .cons rfl (blkLe_appN (c := 1) (fun i hi => by
              obtain rfl : i = 0 := by omega
              exact hz.symm) prtL_pure) .nil, rfl⟩
            repeat (first | exact TmE.nil | refine TmE.cons (by first | exact AvLe.refl _ | exact AvLe.int (by omega)) ?_)⟩
        · by_cases c3 : 4 < q
          · have hpo : partOf ((F i).1, (F i).2) = [⟨q - 1, 2, q⟩, ⟨5, q / 4, q⟩] := by
              unfold partOf
              rw [if_neg c1, ← hq, if_neg c2, if_pos c3]
            rw [hpo] at hat hcn
            have hz := hat 0 _ rfl
            have hz1 := hat 1 _ rfl
            have hdq : ((q : Int)).tdiv 4 = ((q / 4 : Nat) : Int) := (Int.ofNat_tdiv _ _).symm
            have hdl : q / 4 ≤ q := Nat.div_le_self _ _
            have HCN := Lib.hid hcn
            clear hat hcn hpo hq HPM
            repeat' ((conv => whnf); first | refine Ob.g ?_ | refine Cases.y ?_ | refine Cases.n ?_ | refine Idx.g rfl ?_ | refine Idx.z rfl ?_ | refine DrawOb.start ?_ | refine TryF.f ?_ | refine TryF.next rfl ?_ | refine TryF.other ?_ | refine TryA.g ?_ | refine TryA.next rfl ?_ | refine TryA.other ?_ | refine TryS.g ?_ | refine TryS.next rfl ?_ | refine TryS.other ?_ | refine TryG.g ?_ | refine TryG.next rfl ?_)
            refine ⟨⟨fun i => if i = 0 then ⟨q - 1, 2, q⟩ else ⟨5, q / 4, q⟩, fun i j hi hj => ?_, fun _ _ _ _ => prtL_pureN _ _, ?_⟩⟩
            · match i, j, hi, hj with
              | 0, 0, _, _ => exact .int (by show (q : Int) - 1 = ((q - 1 : Nat) : Int); omega)
              | 0, 1, _, _ => exact .refl _
              | 0, 2, _, _ => exact .refl _
              | 1, 0, _, _ => exact .refl _
              | 1, 1, _, _ => exact .int hdq
              | 1, 2, _, _ => exact .refl _
            repeat' ((conv => whnf); first | refine Ob.g ?_ | refine Cases.y ?_ | refine Cases.n ?_ | refine Idx.g rfl ?_ | refine Idx.z rfl ?_ | refine DrawOb.start ?_ | refine TryF.f ?_ | refine TryF.next rfl ?_ | refine TryF.other ?_ | refine TryA.g ?_ | refine TryA.next rfl ?_ | refine TryA.other ?_ | refine TryS.g ?_ | refine TryS.next rfl ?_ | refine TryS.other ?_ | refine TryG.g ?_ | refine TryG.next rfl ?_)
            exact ⟨(i + 1, m + 2), [.r 3 0], ⟨by omega, HCN.out.symm⟩, by show nf - (i + 1) < nf - i; omega, by
              refine ⟨?_, .cons rfl (blkLe_appN (c := 2) (fun i hi => by
                match i, hi with
                | 0, _ => exact hz.symm
                | 1, _ => exact hz1.symm) prtL_pure) .nil, rfl⟩
              repeat (first | exact TmE.nil | refine TmE.cons (by first | exact AvLe.refl _ | exact AvLe.int (by omega)) ?_)⟩
          · have hpo : partOf ((F i).1, (F i).2) = [] := by
              unfold partOf
              rw [if_neg c1, ← hq, if_neg c2, if_neg c3]
            rw [hpo] at hcn
            have HCN := Lib.hid hcn
            clear hat hcn hpo hq HPM
            repeat' ((conv => whnf); first | refine Ob.g ?_ | refine Cases.y ?_ | refine Cases.n ?_ | refine Idx.g rfl ?_ | refine Idx.z rfl ?_ | refine DrawOb.start ?_ | refine TryF.f ?_ | refine TryF.next rfl ?_ | refine TryF.other ?_ | refine TryA.g ?_ | refine TryA.next rfl ?_ | refine TryA.other ?_ | refine TryS.g ?_ | refine TryS.next rfl ?_ | refine TryS.other ?_ | refine TryG.g ?_ | refine TryG.next rfl ?_)
            exact ⟨(i + 1, m), [], ⟨by omega, HCN.out.symm⟩, by show nf - (i + 1) < nf - i; omega, Ent.g⟩
  · obtain rfl : i = nf := by omega
    have he : m = len := by rw [hm, hnf, List.take_length, hlen]; rfl
    subst he
    repeat' ((conv => whnf); first | refine Ob.g ?_ | refine Cases.y ?_ | refine Cases.n ?_ | refine Idx.g rfl ?_ | refine Idx.z rfl ?_ | refine DrawOb.start ?_ | refine TryF.f ?_ | refine TryF.next rfl ?_ | refine TryF.other ?_ | refine TryA.g ?_ | refine TryA.next rfl ?_ | refine TryA.other ?_ | refine TryS.g ?_ | refine TryS.next rfl ?_ | refine TryS.other ?_ | refine TryG.g ?_ | refine TryG.next rfl ?_)
    refine ⟨⟨_, _, rfl, rfl, ?_⟩⟩
    exact AvLe.refl _
end Go.Proofs.YtedfcemebdlgfaaGreatDoor
