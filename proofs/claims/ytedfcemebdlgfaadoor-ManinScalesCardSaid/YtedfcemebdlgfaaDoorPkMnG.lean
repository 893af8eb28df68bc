/- Own texts joined: MnG, MnH. -/
import Derived.Test.YtedfcemebdlgfaaDoorPkBnA
import Derived.Test.YtedfcemebdlgfaaDoorPkMnA
import Derived.Test.YtedfcemebdlgfaaDoorPkVgV
/- The list of the points of P1(Z/n), walked. -/
namespace Go.Proofs.YtedfcemebdlgfaaDoor
open Go Go.RowKit Go.VG HP
theorem Seen_no {n x y : Nat} (h : isN n x = false) : Seen n (x + 1) y ↔ Seen n x y := by
  constructor
  · rintro ⟨z, s, z1, z2, z3, z4⟩
    by_cases hz : z = x
    · rw [hz, h] at z2; cases z2
    · exact ⟨z, s, by omega, z2, z3, z4⟩
  · rintro ⟨z, s, z1, z2, z3, z4⟩
    exact ⟨z, s, by omega, z2, z3, z4⟩
theorem Seen_yes {n x y : Nat} (h : isN n x = true) : Seen n (x + 1) y ↔ Seen n x y ∨ ∃ s, UU n s ∧ mu n s x = y := by
  constructor
  · rintro ⟨z, s, z1, z2, z3, z4⟩
    by_cases hz : z = x
    · subst hz; exact .inr ⟨s, z3, z4⟩
    · exact .inl ⟨z, s, by omega, z2, z3, z4⟩
  · rintro (⟨z, s, z1, z2, z3, z4⟩ | ⟨s, s1, s2⟩)
    · exact ⟨z, s, by omega, z2, z3, z4⟩
    · exact ⟨x, s, by omega, h, s1, s2⟩
theorem pt_cnt {n x : Nat} (hx : x < n * n) (h : isN n x = true) : pt n (cntN n x) = x := pt_of (pts_at hx h)
/-- a point, as it is written -/
def ptL (n x j : Nat) : Leaf := getL [ix (x / n : Nat), ix (x % n : Nat), ix 1] j
def blL (b : Bool) (_ : Nat) : Leaf := .x (.bool b)
theorem mk_bool (m : Nat) : ∀ i j, i < m → j < 1 → blL ((fun _ : Nat => false) i) j = .x (([.bool false] : List Value).getD j undef) := fun i j _ hj => by
  obtain rfl : j = 0 := by omega
  rfl
theorem level_sp (n : Int) : Sp CX 91 [int .i64 n] (int .i64 (if n < 1 ∨ 120 < n then 2 else 0)) := by
  by_cases h1 : n < 1
  · rw [if_pos (.inl h1)]
    refine fn_sp (C := CX) [] [] tysX_ok mixed Tryd.func91 rfl (by kernel_rfl) Tryd.ntmps91 rfl rfl ?_
    repeat' ((conv => whnf); first | refine Ob.g ?_ | refine WrOb.g ?_ | refine WrOb.u32 ?_ | refine WrOb.u64 ?_ | refine Cases.y ?_ | refine Cases.n ?_ | refine Idx.g rfl ?_ | refine Idx.z rfl ?_ | refine DrawOb.start ?_ | refine TryF.f ?_ | refine TryF.next rfl ?_ | refine TryF.other ?_ | refine TryA.g ?_ | refine TryA.next rfl ?_ | refine TryA.other ?_ | refine TryS.g ?_ | refine TryS.next rfl ?_ | refine TryS.other ?_ | refine TryG.g ?_ | refine TryG.next rfl ?_ | refine TryG.other ?_ | refine TryT.g ?_)
    refine ⟨⟨_, _, rfl, rfl, ?_⟩⟩
    exact AvLe.refl _
  · by_cases h2 : 120 < n
    · rw [if_pos (.inr h2)]
      refine fn_sp (C := CX) [] [] tysX_ok mixed Tryd.func91 rfl (by kernel_rfl) Tryd.ntmps91 rfl rfl ?_
      repeat' ((conv => whnf); first | refine Ob.g ?_ | refine WrOb.g ?_ | refine WrOb.u32 ?_ | refine WrOb.u64 ?_ | refine Cases.y ?_ | refine Cases.n ?_ | refine Idx.g rfl ?_ | refine Idx.z rfl ?_ | refine DrawOb.start ?_ | refine TryF.f ?_ | refine TryF.next rfl ?_ | refine TryF.other ?_ | refine TryA.g ?_ | refine TryA.next rfl ?_ | refine TryA.other ?_ | refine TryS.g ?_ | refine TryS.next rfl ?_ | refine TryS.other ?_ | refine TryG.g ?_ | refine TryG.next rfl ?_ | refine TryG.other ?_ | refine TryT.g ?_)
      refine ⟨⟨_, _, rfl, rfl, ?_⟩⟩
      exact AvLe.refl _
    · rw [if_neg (by omega)]
      refine fn_sp (C := CX) [] [] tysX_ok mixed Tryd.func91 rfl (by kernel_rfl) Tryd.ntmps91 rfl rfl ?_
      repeat' ((conv => whnf); first | refine Ob.g ?_ | refine WrOb.g ?_ | refine WrOb.u32 ?_ | refine WrOb.u64 ?_ | refine Cases.y ?_ | refine Cases.n ?_ | refine Idx.g rfl ?_ | refine Idx.z rfl ?_ | refine DrawOb.start ?_ | refine TryF.f ?_ | refine TryF.next rfl ?_ | refine TryF.other ?_ | refine TryA.g ?_ | refine TryA.next rfl ?_ | refine TryA.other ?_ | refine TryS.g ?_ | refine TryS.next rfl ?_ | refine TryS.other ?_ | refine TryG.g ?_ | refine TryG.next rfl ?_ | refine TryG.other ?_ | refine TryT.g ?_)
      refine ⟨⟨_, _, rfl, rfl, ?_⟩⟩
      exact AvLe.refl _
/-- the units, so far -/
structure UnI (n s m : Nat) (H : Nat → Nat) : Prop where
  m1 : m < s
  u : ∀ j, j < m → UU n (H j)
  e : ∀ t, t < s → UU n t → ∃ j, j < m ∧ H j = t
theorem UnI.yes {n s m : Nat} {H : Nat → Nat} (h : UnI n s m H) (hs : UU n s) : UnI n (s + 1) (m + 1) (appZ Nat H (fun _ => s) m) := by
  have e : ∀ j, j < m → appZ Nat H (fun _ => s) m j = H j := fun j hj => by unfold appZ; rw [if_pos hj]
  have e2 : appZ Nat H (fun _ => s) m m = s := by unfold appZ; rw [if_neg (by omega)]
  refine ⟨by have := h.m1; omega, fun j hj => ?_, fun t ht hu => ?_⟩
  · by_cases hj2 : j < m
    · rw [e j hj2]; exact h.u j hj2
    · rw [show j = m by omega, e2]; exact hs
  · by_cases hts : t = s
    · exact ⟨m, by omega, e2.trans hts.symm⟩
    · obtain ⟨j, j1, j2⟩ := h.e t (by omega) hu
      exact ⟨j, by omega, (e j j1).trans j2⟩
theorem UnI.no {n s m : Nat} {H : Nat → Nat} (h : UnI n s m H) (hs : ¬ UU n s) : UnI n (s + 1) m H :=
  ⟨by have := h.m1; omega, h.u, fun t ht hu => h.e t (by
    have : t ≠ s := fun e => hs (e ▸ hu)
    omega) hu⟩
/-- what is seen and what is listed before x -/
structure SeI (n x : Nat) (S : Nat → Bool) (O : Nat → Nat) : Prop where
  s : ∀ y, y < n * n → (S y = true ↔ Seen n x y)
  o : ∀ j, j < cntN n x → O j = pt n j
set_option maxHeartbeats 16000000 in
set_option maxRecDepth 20000 in
theorem List_sp (n : Nat) (hn0 : 1 ≤ n) (hn : n ≤ 120) : Sp CX 66 [int .i64 n] (.tup [.c (.sl 3 Nat (ptL n) (pt n) (pts n).length), .c (ix 0)]) := by
  have s1 := level_sp n
  rw [if_neg (by omega)] at s1
  refine fn_sp (C := CX) [] [2] tysX_ok mixed Tryd.func66 rfl (by kernel_rfl) Tryd.ntmps66 rfl rfl ?_
  repeat' ((conv => whnf); first | refine Ob.g ?_ | refine WrOb.g ?_ | refine WrOb.u32 ?_ | refine WrOb.u64 ?_ | refine Cases.y ?_ | refine Cases.n ?_ | refine Idx.g rfl ?_ | refine Idx.z rfl ?_ | refine DrawOb.start ?_ | refine TryF.f ?_ | refine TryF.next rfl ?_ | refine TryF.other ?_ | refine TryA.g ?_ | refine TryA.next rfl ?_ | refine TryA.other ?_ | refine TryS.g ?_ | refine TryS.next rfl ?_ | refine TryS.other ?_ | refine TryG.g ?_ | refine TryG.next rfl ?_ | refine TryG.other ?_ | refine TryT.g ?_ | refine Sp.g (s1) ?_)
  refine ⟨⟨Nat × Nat × (Nat → Nat), fun (s, m, H) => ⟨[(0, int .i64 n), (5, .v (.c (.row 0))), (6, int .i64 s)], [(0, .rw 1 3 false Nat (fun z _ => ix z) H m)], 1⟩, fun (s, m, H) => 1 ≤ s ∧ s ≤ n + 1 ∧ UnI n s m H, fun (s, _, _) => n + 1 - s, ⟨(1, 0, fun _ => 0), [.n 5 0 1 3], ⟨Nat.le_refl _, by omega, ⟨by omega, fun j hj => absurd hj (Nat.not_lt_zero _), fun t ht hu => by have := hu.1; omega⟩⟩, Ent.g⟩, ?_⟩⟩
  rintro ⟨s, m, H⟩ ⟨k1, k2, hU⟩
  by_cases hs : s ≤ n
  · have sg := gcd_sp s n (by omega) (by omega) (by omega) (by omega)
    rw [gcdW_eq (by omega) (by omega) (by omega) (by omega), show Int.gcd (s : Int) n = Nat.gcd s n from rfl] at sg
    by_cases hg : Nat.gcd s n = 1
    · have hn2 := hU.yes ⟨k1, hs, hg⟩
      have hmm := hU.m1
      clear hU
      repeat' ((conv => whnf); first | refine Ob.g ?_ | refine WrOb.g ?_ | refine WrOb.u32 ?_ | refine WrOb.u64 ?_ | refine Cases.y ?_ | refine Cases.n ?_ | refine Idx.g rfl ?_ | refine Idx.z rfl ?_ | refine DrawOb.start ?_ | refine TryF.f ?_ | refine TryF.next rfl ?_ | refine TryF.other ?_ | refine TryA.g ?_ | refine TryA.next rfl ?_ | refine TryA.other ?_ | refine TryS.g ?_ | refine TryS.next rfl ?_ | refine TryS.other ?_ | refine TryG.g ?_ | refine TryG.next rfl ?_ | refine TryG.other ?_ | refine TryT.g ?_ | refine Sp.g (sg) ?_)
      refine ⟨⟨fun _ => s, fun i j hi hj => ?_, fun _ _ _ _ => rfl, ?_⟩⟩
      · obtain rfl : i = 0 := by omega
        obtain rfl : j = 0 := by omega
        exact .refl _
      repeat' ((conv => whnf); first | refine Ob.g ?_ | refine WrOb.g ?_ | refine WrOb.u32 ?_ | refine WrOb.u64 ?_ | refine Cases.y ?_ | refine Cases.n ?_ | refine Idx.g rfl ?_ | refine Idx.z rfl ?_ | refine DrawOb.start ?_ | refine TryF.f ?_ | refine TryF.next rfl ?_ | refine TryF.other ?_ | refine TryA.g ?_ | refine TryA.next rfl ?_ | refine TryA.other ?_ | refine TryS.g ?_ | refine TryS.next rfl ?_ | refine TryS.other ?_ | refine TryG.g ?_ | refine TryG.next rfl ?_ | refine TryG.other ?_ | refine TryT.g ?_)
      exact ⟨(s + 1, m + 1, _), [.s 0 1], ⟨by omega, by omega, hn2⟩, by show n + 1 - (s + 1) < n + 1 - s; omega, Ent.g⟩
    · have hn2 := hU.no (fun h => hg h.2.2)
      clear hU
      repeat' ((conv => whnf); first | refine Ob.g ?_ | refine WrOb.g ?_ | refine WrOb.u32 ?_ | refine WrOb.u64 ?_ | refine Cases.y ?_ | refine Cases.n ?_ | refine Idx.g rfl ?_ | refine Idx.z rfl ?_ | refine DrawOb.start ?_ | refine TryF.f ?_ | refine TryF.next rfl ?_ | refine TryF.other ?_ | refine TryA.g ?_ | refine TryA.next rfl ?_ | refine TryA.other ?_ | refine TryS.g ?_ | refine TryS.next rfl ?_ | refine TryS.other ?_ | refine TryG.g ?_ | refine TryG.next rfl ?_ | refine TryG.other ?_ | refine TryT.g ?_ | refine Sp.g (sg) ?_)
      exact ⟨(s + 1, m, H), [], ⟨by omega, by omega, hn2⟩, by show n + 1 - (s + 1) < n + 1 - s; omega, Ent.g⟩
  · obtain rfl : s = n + 1 := by omega
    have hmn := hU.m1
    have hu := hU.u
    have he := fun t (h : UU n t) => hU.e t (by have := h.2.1; omega) h
    clear hU
    have hnn : (n : Int) * n ≤ 120 * 120 := Int.mul_le_mul (by omega) (by omega) (by omega) (by omega)
    have hnn0 : (0 : Int) ≤ (n : Int) * n := Int.mul_nonneg (by omega) (by omega)
    have enn : ((n * n : Nat) : Int) = (n : Int) * n := by push_cast; rfl
    repeat' ((conv => whnf); first | (refine Ob.mk ⟨rfl, by omega, by decide⟩ ?_) | refine Ob.g ?_ | refine WrOb.g ?_ | refine WrOb.u32 ?_ | refine WrOb.u64 ?_ | refine Cases.y ?_ | refine Cases.n ?_ | refine Idx.g rfl ?_ | refine Idx.z rfl ?_ | refine DrawOb.start ?_ | refine TryF.f ?_ | refine TryF.next rfl ?_ | refine TryF.other ?_ | refine TryA.g ?_ | refine TryA.next rfl ?_ | refine TryA.other ?_ | refine TryS.g ?_ | refine TryS.next rfl ?_ | refine TryS.other ?_ | refine TryG.g ?_ | refine TryG.next rfl ?_ | refine TryG.other ?_ | refine TryT.g ?_)
    refine ⟨⟨Bool, blL, fun _ => false, n * n, by rw [enn], mk_bool _, ?_⟩⟩
    repeat' ((conv => whnf); first | refine Ob.g ?_ | refine WrOb.g ?_ | refine WrOb.u32 ?_ | refine WrOb.u64 ?_ | refine Cases.y ?_ | refine Cases.n ?_ | refine Idx.g rfl ?_ | refine Idx.z rfl ?_ | refine DrawOb.start ?_ | refine TryF.f ?_ | refine TryF.next rfl ?_ | refine TryF.other ?_ | refine TryA.g ?_ | refine TryA.next rfl ?_ | refine TryA.other ?_ | refine TryS.g ?_ | refine TryS.next rfl ?_ | refine TryS.other ?_ | refine TryG.g ?_ | refine TryG.next rfl ?_ | refine TryG.other ?_ | refine TryT.g ?_)
    refine ⟨⟨Nat × Nat × (Nat → Bool) × (Nat → Nat), fun (x, c, S, O) => ⟨[(0, int .i64 n), (5, .v (.c (.row 0))), (7, .v (.c (.row 2))), (8, .v (.c (.row 1))), (36, .v (.c (.row 1))), (37, int .i64 (n * n : Nat)), (38, int .i64 x)], [(2, .rw 3 96 false Nat (ptL n) O c), (1, .rw 1 4 false Bool blL S (n * n)), (0, .rw 1 3 false Nat (fun z _ => ix z) H m)], 3⟩, fun (x, c, S, O) => x ≤ n * n ∧ c = cntN n x ∧ SeI n x S O, fun (x, _, _, _) => n * n - x, ⟨(0, 0, fun _ => false, fun _ => 0), [.n 7 2 3 96], ⟨Nat.zero_le _, rfl, ⟨fun y _ => ⟨fun h => (by cases h), fun ⟨z, _, hz, _⟩ => absurd hz (Nat.not_lt_zero _)⟩, fun j hj => absurd hj (Nat.not_lt_zero _)⟩⟩, Ent.g⟩, ?_⟩⟩
    rintro ⟨x, c, S, O⟩ ⟨x1, hcc, hI⟩
    have hcx := cntN_le n x
    by_cases hx : x < n * n
    · have hno' : ∀ s, UU n s → s * (x / n) ≤ 120 * 120 ∧ s * (x % n) ≤ 120 * 120 := fun s hs => ⟨Nat.mul_le_mul (by have := hs.2.1; omega) (by have := Nat.div_lt_of_lt_mul hx; omega), Nat.mul_le_mul (by have := hs.2.1; omega) (by have := Nat.mod_lt x (show n > 0 by omega); omega)⟩
      have hmu : ∀ s, mu n s x = s * (x / n) % n * n + s * (x % n) % n := fun s => rfl
      have hml : ∀ s, mu n s x < n * n := fun s => mu_lt (by omega) s x
      have hci := cop_iff (n := n) (x := x)
      have hu1 : x / n < n := Nat.div_lt_of_lt_mul hx
      have hv1 : x % n < n := Nat.mod_lt _ (by omega)
      have eq1 : (x : Int).tdiv n = ((x / n : Nat) : Int) := (Int.ofNat_tdiv x n).symm
      have eq2 : (x : Int).tmod n = ((x % n : Nat) : Int) := (Int.ofNat_tmod x n).symm
      have ept : ∀ j, ptL n x j = getL [ix (x / n : Nat), ix (x % n : Nat), ix 1] j := fun _ => rfl
      generalize x / n = u at *
      generalize x % n = v at *
      have s3 := gcd_sp u v (by omega) (by omega) (by omega) (by omega)
      rw [gcdW_eq (by omega) (by omega) (by omega) (by omega), show Int.gcd (u : Int) (v : Int) = Nat.gcd u v from rfl] at s3
      have hgl : Nat.gcd u v ≤ 120 := by
        rcases Nat.eq_zero_or_pos v with h | h
        · rw [h, Nat.gcd_zero_right]; omega
        · have := Nat.gcd_le_right u h; omega
      have s4 := gcd_sp (Nat.gcd u v : Nat) n (by omega) (by omega) (by omega) (by omega)
      rw [gcdW_eq (by omega) (by omega) (by omega) (by omega), show Int.gcd ((Nat.gcd u v : Nat) : Int) (n : Int) = Nat.gcd (Nat.gcd u v) n from rfl] at s4
      have hxm : n * n - (x + 1) < n * n - x := by omega
      by_cases hS : S x = true
      · have hno : isN n x = false := by
          rw [Bool.eq_false_iff]
          intro h
          exact seen_new (by omega) hx h ((hI.s x hx).1 hS)
        have hI' : SeI n (x + 1) S O := ⟨fun y hy => (hI.s y hy).trans (Seen_no hno).symm, fun j hj => hI.o j (by rw [cntN_no hno] at hj; exact hj)⟩
        have hcn := cntN_no hno
        clear hI hci hmu hml hno'
        repeat' ((conv => whnf); first | refine Ob.g ?_ | refine WrOb.g ?_ | refine WrOb.u32 ?_ | refine WrOb.u64 ?_ | refine Cases.y ?_ | refine Cases.n ?_ | refine Idx.g rfl ?_ | refine Idx.z rfl ?_ | refine DrawOb.start ?_ | refine TryF.f ?_ | refine TryF.next rfl ?_ | refine TryF.other ?_ | refine TryA.g ?_ | refine TryA.next rfl ?_ | refine TryA.other ?_ | refine TryS.g ?_ | refine TryS.next rfl ?_ | refine TryS.other ?_ | refine TryG.g ?_ | refine TryG.next rfl ?_ | refine TryG.other ?_ | refine TryT.g ?_ | refine Sp.g (s3) ?_ | refine Sp.g (s4) ?_)
        exact ⟨(x + 1, c, S, O), [], ⟨by omega, hcc.trans hcn.symm, hI'⟩, hxm, Ent.g⟩
      · have hSf : S x = false := by simpa using hS
        by_cases hc : Nat.gcd (Nat.gcd u v) n = 1
        · have hyes : isN n x = true := by
            cases h : isN n x with
            | true => rfl
            | false => exact absurd ((hI.s x hx).2 (seen_old (by omega) hx h (hci.2 hc))) hS
          have hcn := cntN_yes hyes
          have hpc := pt_cnt hx hyes
          repeat' ((conv => whnf); first | refine Ob.g ?_ | refine WrOb.g ?_ | refine WrOb.u32 ?_ | refine WrOb.u64 ?_ | refine Cases.y ?_ | refine Cases.n ?_ | refine Idx.g rfl ?_ | refine Idx.z rfl ?_ | refine DrawOb.start ?_ | refine TryF.f ?_ | refine TryF.next rfl ?_ | refine TryF.other ?_ | refine TryA.g ?_ | refine TryA.next rfl ?_ | refine TryA.other ?_ | refine TryS.g ?_ | refine TryS.next rfl ?_ | refine TryS.other ?_ | refine TryG.g ?_ | refine TryG.next rfl ?_ | refine TryG.other ?_ | refine TryT.g ?_ | refine Sp.call (s3) (.cons (.int eq1) (.cons (.int eq2) .nil)) rfl (AvLe.refl _) ?_ | refine Sp.g (s4) ?_)
          refine ⟨⟨fun _ => x, fun i j hi hj => ?_, fun _ j _ hj => ?_, ?_⟩⟩
          · obtain rfl : i = 0 := by omega
            rw [ept]
            rcases (show j = 0 ∨ j = 1 ∨ j = 2 by omega) with rfl | rfl | rfl
            · exact .int eq1
            · exact .int eq2
            · exact .refl _
          · rw [ept]
            rcases (show j = 0 ∨ j = 1 ∨ j = 2 by omega) with rfl | rfl | rfl <;> rfl
          repeat' ((conv => whnf); first | refine Ob.g ?_ | refine WrOb.g ?_ | refine WrOb.u32 ?_ | refine WrOb.u64 ?_ | refine Cases.y ?_ | refine Cases.n ?_ | refine Idx.g rfl ?_ | refine Idx.z rfl ?_ | refine DrawOb.start ?_ | refine TryF.f ?_ | refine TryF.next rfl ?_ | refine TryF.other ?_ | refine TryA.g ?_ | refine TryA.next rfl ?_ | refine TryA.other ?_ | refine TryS.g ?_ | refine TryS.next rfl ?_ | refine TryS.other ?_ | refine TryG.g ?_ | refine TryG.next rfl ?_ | refine TryG.other ?_ | refine TryT.g ?_)
          refine ⟨⟨Nat × (Nat → Bool), fun (i, S') => ⟨[(0, int .i64 n), (5, .v (.c (.row 0))), (7, .v (.c (.row 10))), (8, .v (.c (.row 1))), (9, int .i64 x), (10, int .i64 u), (11, int .i64 v), (36, .v (.c (.row 1))), (37, int .i64 (n * n : Nat)), (38, int .i64 x), (65, .v (.c (.row 0))), (66, int .i64 m), (67, int .i64 i)], [(10, .rw 3 96 false Nat (ptL n) (appZ Nat O (fun _ => x) c) (c + 1)), (1, .rw 1 4 false Bool blL S' (n * n)), (0, .rw 1 3 false Nat (fun z _ => ix z) H m)], 11⟩, fun (i, S') => i ≤ m ∧ ∀ y, y < n * n → (S' y = true ↔ Seen n x y ∨ ∃ j, j < i ∧ mu n (H j) x = y), fun (i, _) => m - i, ⟨(0, S), [], ⟨Nat.zero_le _, fun y hy => (hI.s y hy).trans ⟨fun h => .inl h, fun h => h.resolve_right fun ⟨_, hj, _⟩ => absurd hj (Nat.not_lt_zero _)⟩⟩, Ent.g⟩, ?_⟩⟩
          rintro ⟨i, S'⟩ ⟨i1, hS'⟩
          by_cases hi : i < m
          · have hui := hu i hi
            obtain ⟨b1, b2⟩ := hno' (H i) hui
            have ea : ((H i : Int) * u).tmod n = ((H i * u % n : Nat) : Int) := by rw [← Int.natCast_mul]; exact (Int.ofNat_tmod _ _).symm
            have eb : ((H i : Int) * v).tmod n = ((H i * v % n : Nat) : Int) := by rw [← Int.natCast_mul]; exact (Int.ofNat_tmod _ _).symm
            have la := Nat.mod_lt (H i * u) (show n > 0 by omega)
            have lb := Nat.mod_lt (H i * v) (show n > 0 by omega)
            have q1 : (H i : Int) * u ≤ 120 * 120 := by rw [← Int.natCast_mul]; omega
            have q2 : (H i : Int) * v ≤ 120 * 120 := by rw [← Int.natCast_mul]; omega
            have q1' : (0 : Int) ≤ (H i : Int) * u := Int.mul_nonneg (by omega) (by omega)
            have q2' : (0 : Int) ≤ (H i : Int) * v := Int.mul_nonneg (by omega) (by omega)
            have q3 : ((H i : Int) * u).tmod n * n ≤ 120 * 120 := by rw [ea]; exact Int.mul_le_mul (by omega) (by omega) (by omega) (by omega)
            have q3' : 0 ≤ ((H i : Int) * u).tmod n * n := by rw [ea]; exact Int.mul_nonneg (by omega) (by omega)
            have q4 : 0 ≤ ((H i : Int) * v).tmod n ∧ ((H i : Int) * v).tmod n ≤ 120 := by rw [eb]; omega
            have ix1 : ((H i : Int) * u).tmod n * n + ((H i : Int) * v).tmod n = ((mu n (H i) x : Nat) : Int) := by rw [ea, eb, hmu]; push_cast; rfl
            have hmu2 := hml (H i)
            have hn2 : ∀ y, y < n * n → (setZ Bool S' (mu n (H i) x) true y = true ↔ Seen n x y ∨ ∃ j, j < i + 1 ∧ mu n (H j) x = y) := fun y hy => by
              unfold setZ
              by_cases h : y = mu n (H i) x
              · rw [if_pos h]
                exact ⟨fun _ => .inr ⟨i, by omega, h.symm⟩, fun _ => rfl⟩
              · rw [if_neg h, hS' y hy]
                constructor
                · rintro (h1 | ⟨j, j1, j2⟩)
                  · exact .inl h1
                  · exact .inr ⟨j, by omega, j2⟩
                · rintro (h1 | ⟨j, j1, j2⟩)
                  · exact .inl h1
                  · by_cases hj : j = i
                    · rw [hj] at j2; exact absurd j2.symm h
                    · exact .inr ⟨j, by omega, j2⟩
            clear hI hS' hci hmu hml hno' hu he la lb ea eb
            repeat' ((conv => whnf); first | (refine Idx.mk ⟨i, rfl, hi, ?_⟩) | (refine Idx.mk ⟨mu n (H i) x, by omega, hmu2, ?_⟩) | refine Ob.g ?_ | refine WrOb.g ?_ | refine WrOb.u32 ?_ | refine WrOb.u64 ?_ | refine Cases.y ?_ | refine Cases.n ?_ | refine Idx.g rfl ?_ | refine Idx.z rfl ?_ | refine DrawOb.start ?_ | refine TryF.f ?_ | refine TryF.next rfl ?_ | refine TryF.other ?_ | refine TryA.g ?_ | refine TryA.next rfl ?_ | refine TryA.other ?_ | refine TryS.g ?_ | refine TryS.next rfl ?_ | refine TryS.other ?_ | refine TryG.g ?_ | refine TryG.next rfl ?_ | refine TryG.other ?_ | refine TryT.g ?_)
            refine ⟨⟨true, rfl, ?_⟩⟩
            repeat' ((conv => whnf); first | refine Ob.g ?_ | refine WrOb.g ?_ | refine WrOb.u32 ?_ | refine WrOb.u64 ?_ | refine Cases.y ?_ | refine Cases.n ?_ | refine Idx.g rfl ?_ | refine Idx.z rfl ?_ | refine DrawOb.start ?_ | refine TryF.f ?_ | refine TryF.next rfl ?_ | refine TryF.other ?_ | refine TryA.g ?_ | refine TryA.next rfl ?_ | refine TryA.other ?_ | refine TryS.g ?_ | refine TryS.next rfl ?_ | refine TryS.other ?_ | refine TryG.g ?_ | refine TryG.next rfl ?_ | refine TryG.other ?_ | refine TryT.g ?_)
            exact ⟨(i + 1, _), [], ⟨hi, hn2⟩, by show m - (i + 1) < m - i; omega, Ent.g⟩
          · obtain rfl : i = m := by omega
            have hI' : SeI n (x + 1) S' (appZ Nat O (fun _ => x) c) := by
              refine ⟨fun y hy => ?_, fun j hj => ?_⟩
              · rw [hS' y hy, Seen_yes hyes]
                constructor
                · rintro (h1 | ⟨j, j1, j2⟩)
                  · exact .inl h1
                  · exact .inr ⟨H j, hu j j1, j2⟩
                · rintro (h1 | ⟨s, s1, s2⟩)
                  · exact .inl h1
                  · obtain ⟨j, j1, j2⟩ := he s s1
                    exact .inr ⟨j, j1, by rw [j2]; exact s2⟩
              · rw [hcn] at hj
                show appZ Nat O (fun _ => x) c j = _
                unfold appZ
                rw [hcc]
                by_cases h : j < cntN n x
                · rw [if_pos h]; exact hI.o j h
                · rw [if_neg h, show j = cntN n x by omega, hpc]
            clear hI hS' hci hmu hml hno' hu he
            repeat' ((conv => whnf); first | refine Ob.g ?_ | refine WrOb.g ?_ | refine WrOb.u32 ?_ | refine WrOb.u64 ?_ | refine Cases.y ?_ | refine Cases.n ?_ | refine Idx.g rfl ?_ | refine Idx.z rfl ?_ | refine DrawOb.start ?_ | refine TryF.f ?_ | refine TryF.next rfl ?_ | refine TryF.other ?_ | refine TryA.g ?_ | refine TryA.next rfl ?_ | refine TryA.other ?_ | refine TryS.g ?_ | refine TryS.next rfl ?_ | refine TryS.other ?_ | refine TryG.g ?_ | refine TryG.next rfl ?_ | refine TryG.other ?_ | refine TryT.g ?_)
            exact ⟨(x + 1, c + 1, S', _), [.s 2 10], ⟨by omega, by rw [hcc, hcn], hI'⟩, hxm, Ent.g⟩
        · have hno : isN n x = false := by
            rw [Bool.eq_false_iff]
            intro h
            exact hc (hci.1 (isN_cop h))
          have hI' : SeI n (x + 1) S O := ⟨fun y hy => (hI.s y hy).trans (Seen_no hno).symm, fun j hj => hI.o j (by rw [cntN_no hno] at hj; exact hj)⟩
          have hcn := cntN_no hno
          clear hI hci hmu hml hno'
          repeat' ((conv => whnf); first | refine Ob.g ?_ | refine WrOb.g ?_ | refine WrOb.u32 ?_ | refine WrOb.u64 ?_ | refine Cases.y ?_ | refine Cases.n ?_ | refine Idx.g rfl ?_ | refine Idx.z rfl ?_ | refine DrawOb.start ?_ | refine TryF.f ?_ | refine TryF.next rfl ?_ | refine TryF.other ?_ | refine TryA.g ?_ | refine TryA.next rfl ?_ | refine TryA.other ?_ | refine TryS.g ?_ | refine TryS.next rfl ?_ | refine TryS.other ?_ | refine TryG.g ?_ | refine TryG.next rfl ?_ | refine TryG.other ?_ | refine TryT.g ?_ | refine Sp.call (s3) (.cons (.int eq1) (.cons (.int eq2) .nil)) rfl (AvLe.refl _) ?_ | refine Sp.g (s4) ?_)
          exact ⟨(x + 1, c, S, O), [], ⟨by omega, hcc.trans hcn.symm, hI'⟩, hxm, Ent.g⟩
    · obtain rfl : x = n * n := by omega
      have hO := hI.o
      clear hI
      repeat' ((conv => whnf); first | refine Ob.g ?_ | refine WrOb.g ?_ | refine WrOb.u32 ?_ | refine WrOb.u64 ?_ | refine Cases.y ?_ | refine Cases.n ?_ | refine Idx.g rfl ?_ | refine Idx.z rfl ?_ | refine DrawOb.start ?_ | refine TryF.f ?_ | refine TryF.next rfl ?_ | refine TryF.other ?_ | refine TryA.g ?_ | refine TryA.next rfl ?_ | refine TryA.other ?_ | refine TryS.g ?_ | refine TryS.next rfl ?_ | refine TryS.other ?_ | refine TryG.g ?_ | refine TryG.next rfl ?_ | refine TryG.other ?_ | refine TryT.g ?_)
      refine ⟨⟨_, _, rfl, rfl, ?_⟩⟩
      have hc2 := hcc.trans (cntN_end n)
      subst hc2
      exact .tup (.cons (.leaf (.sl fun i j hi _ => by rw [hO i hi]; exact .refl _)) (.cons (.refl _) .nil))
end Go.Proofs.YtedfcemebdlgfaaDoor

/- The reference's list of the points of P1(Z/n), walked. -/
namespace Go.Proofs.YtedfcemebdlgfaaDoor
open Go Go.RowKit Go.VG HP
/-- no unit makes the pair less -/
def lessB (n c d s : Nat) : Bool := decide (s * c % n < c) || (decide (s * c % n = c) && decide (s * d % n < d))
def leB (n c d : Nat) : Bool := (List.range n).all fun s => decide (s < 2) || Nat.gcd s n != 1 || !lessB n c d s
theorem lessB_mu {n c d s : Nat} (hc : c < n) (hd : d < n) : lessB n c d s = !decide (c * n + d ≤ mu n s (c * n + d)) := by
  have hn : 0 < n := by omega
  have e1 : (c * n + d) / n = c := by rw [Nat.add_comm, Nat.add_mul_div_right _ _ hn, Nat.div_eq_of_lt hd, Nat.zero_add]
  have e2 : (c * n + d) % n = d := by rw [Nat.add_comm, Nat.add_mul_mod_self_right, Nat.mod_eq_of_lt hd]
  unfold mu lessB
  rw [e1, e2]
  have l1 := Nat.mod_lt (s * c) hn
  have l2 := Nat.mod_lt (s * d) hn
  generalize s * c % n = a at *
  generalize s * d % n = b at *
  by_cases h1 : a < c
  · have : (a + 1) * n ≤ c * n := Nat.mul_le_mul_right _ h1
    rw [Nat.add_mul, Nat.one_mul] at this
    rw [decide_eq_true h1, decide_eq_false (show ¬ c * n + d ≤ a * n + b by omega)]; rfl
  · by_cases h2 : a = c
    · subst h2
      by_cases h3 : b < d
      · rw [decide_eq_false h1, decide_eq_true rfl, decide_eq_true h3, decide_eq_false (show ¬ a * n + d ≤ a * n + b by omega)]; rfl
      · rw [decide_eq_false h1, decide_eq_true rfl, decide_eq_false h3, decide_eq_true (show a * n + d ≤ a * n + b by omega)]; rfl
    · have : (c + 1) * n ≤ a * n := Nat.mul_le_mul_right _ (by omega)
      rw [Nat.add_mul, Nat.one_mul] at this
      rw [decide_eq_false h1, decide_eq_false h2, decide_eq_true (show c * n + d ≤ a * n + b by omega)]; rfl
theorem isN_le {n c d : Nat} (hc : c < n) (hd : d < n) : isN n (c * n + d) = (copB n (c * n + d) && leB n c d) := by
  unfold isN leB
  simp only [lessB_mu hc hd, Bool.not_not]
theorem cop_cd {n c d : Nat} (hd : d < n) : copB n (c * n + d) = decide (Nat.gcd (Nat.gcd c d) n = 1) := by
  have hn : 0 < n := by omega
  have e1 : (c * n + d) / n = c := by rw [Nat.add_comm, Nat.add_mul_div_right _ _ hn, Nat.div_eq_of_lt hd, Nat.zero_add]
  have e2 : (c * n + d) % n = d := by rw [Nat.add_comm, Nat.add_mul_mod_self_right, Nat.mod_eq_of_lt hd]
  unfold copB
  rw [e1, e2]
  by_cases h : Nat.gcd (Nat.gcd c d) n = 1
  · rw [decide_eq_true h, beq_iff_eq]; exact h
  · rw [decide_eq_false h, beq_eq_false_iff_ne]; exact h
theorem gcd18n (a b : Nat) (ha : a ≤ 100000) (hb : b ≤ 100000) : Sp CX 72 [int .i64 a, int .i64 b] (int .i64 (Nat.gcd a b : Nat)) := by
  have := gcd18_sp a b (by omega) (by omega) (by omega) (by omega)
  exact this
set_option maxHeartbeats 16000000 in
theorem least_sp (n c d : Nat) (hn : n ≤ 120) (hc : c < n) (hd : d < n) : Sp CX 73 [int .i64 n, int .i64 c, int .i64 d] (bool (leB n c d)) := by
  refine fn_sp (C := CX) [] [] tysX_ok mixed Tryd.func73 rfl (by kernel_rfl) Tryd.ntmps73 rfl rfl ?_
  repeat' ((conv => whnf); first | refine Ob.g ?_ | refine WrOb.g ?_ | refine WrOb.u32 ?_ | refine WrOb.u64 ?_ | refine Cases.y ?_ | refine Cases.n ?_ | refine Idx.g rfl ?_ | refine Idx.z rfl ?_ | refine DrawOb.start ?_ | refine TryF.f ?_ | refine TryF.next rfl ?_ | refine TryF.other ?_ | refine TryA.g ?_ | refine TryA.next rfl ?_ | refine TryA.other ?_ | refine TryS.g ?_ | refine TryS.next rfl ?_ | refine TryS.other ?_ | refine TryG.g ?_ | refine TryG.next rfl ?_ | refine TryG.other ?_ | refine TryT.g ?_)
  refine ⟨⟨Nat, fun s => ⟨[(0, int .i64 n), (1, int .i64 c), (2, int .i64 d), (7, int .i64 s)], [], 0⟩, fun s => 2 ≤ s ∧ (s ≤ n ∨ s = 2) ∧ ∀ t, 2 ≤ t → t < s → Nat.gcd t n = 1 → lessB n c d t = false, fun s => n - s, ⟨2, [], ⟨Nat.le_refl _, .inr rfl, fun t h1 h2 => absurd h2 (by omega)⟩, Ent.g⟩, ?_⟩⟩
  rintro s ⟨k1, k2, k3⟩
  by_cases hs : s < n
  · have g := gcd18n s n (by omega) (by omega)
    have p1 : s * c ≤ 120 * 120 := Nat.mul_le_mul (by omega) (by omega)
    have p2 : s * d ≤ 120 * 120 := Nat.mul_le_mul (by omega) (by omega)
    have q1 : (s : Int) * c ≤ 120 * 120 := by rw [← Int.natCast_mul]; omega
    have q2 : (s : Int) * d ≤ 120 * 120 := by rw [← Int.natCast_mul]; omega
    have q1' : (0 : Int) ≤ (s : Int) * c := Int.mul_nonneg (by omega) (by omega)
    have q2' : (0 : Int) ≤ (s : Int) * d := Int.mul_nonneg (by omega) (by omega)
    have ea : ((s : Int) * c).tmod n = ((s * c % n : Nat) : Int) := by rw [← Int.natCast_mul]; exact (Int.ofNat_tmod _ _).symm
    have eb : ((s : Int) * d).tmod n = ((s * d % n : Nat) : Int) := by rw [← Int.natCast_mul]; exact (Int.ofNat_tmod _ _).symm
    have next : (Nat.gcd s n = 1 → lessB n c d s = false) → ∀ t, 2 ≤ t → t < s + 1 → Nat.gcd t n = 1 → lessB n c d t = false := fun h t t1 t2 t3 => by
      by_cases e : t = s
      · subst e; exact h t3
      · exact k3 t t1 (by omega) t3
    have bad : Nat.gcd s n = 1 → lessB n c d s = true → leB n c d = false := fun h1 h2 => by
      rw [Bool.eq_false_iff]
      intro h
      have := List.all_eq_true.1 h s (List.mem_range.2 hs)
      rw [h1, h2, decide_eq_false (by omega)] at this
      cases this
    clear k3 p1 p2
    unfold lessB at next bad
    generalize s * c % n = a at *
    generalize s * d % n = b at *
    by_cases hg : Nat.gcd s n = 1
    · by_cases h1 : a < c
      · have e := bad hg (by rw [decide_eq_true h1]; rfl)
        rw [e]
        repeat' ((conv => whnf); first | refine Ob.g ?_ | refine WrOb.g ?_ | refine WrOb.u32 ?_ | refine WrOb.u64 ?_ | refine Cases.y ?_ | refine Cases.n ?_ | refine Idx.g rfl ?_ | refine Idx.z rfl ?_ | refine DrawOb.start ?_ | refine TryF.f ?_ | refine TryF.next rfl ?_ | refine TryF.other ?_ | refine TryA.g ?_ | refine TryA.next rfl ?_ | refine TryA.other ?_ | refine TryS.g ?_ | refine TryS.next rfl ?_ | refine TryS.other ?_ | refine TryG.g ?_ | refine TryG.next rfl ?_ | refine TryG.other ?_ | refine TryT.g ?_ | refine Sp.g (g) ?_)
        refine ⟨⟨_, _, rfl, rfl, ?_⟩⟩
        exact AvLe.refl _
      · by_cases h2 : a = c
        · by_cases h3 : b < d
          · have e := bad hg (by rw [decide_eq_false h1, decide_eq_true h2, decide_eq_true h3]; rfl)
            rw [e]
            repeat' ((conv => whnf); first | refine Ob.g ?_ | refine WrOb.g ?_ | refine WrOb.u32 ?_ | refine WrOb.u64 ?_ | refine Cases.y ?_ | refine Cases.n ?_ | refine Idx.g rfl ?_ | refine Idx.z rfl ?_ | refine DrawOb.start ?_ | refine TryF.f ?_ | refine TryF.next rfl ?_ | refine TryF.other ?_ | refine TryA.g ?_ | refine TryA.next rfl ?_ | refine TryA.other ?_ | refine TryS.g ?_ | refine TryS.next rfl ?_ | refine TryS.other ?_ | refine TryG.g ?_ | refine TryG.next rfl ?_ | refine TryG.other ?_ | refine TryT.g ?_ | refine Sp.g (g) ?_)
            refine ⟨⟨_, _, rfl, rfl, ?_⟩⟩
            exact AvLe.refl _
          · have e := next fun _ => by rw [decide_eq_false h1, decide_eq_true h2, decide_eq_false h3]; rfl
            clear next bad
            repeat' ((conv => whnf); first | refine Ob.g ?_ | refine WrOb.g ?_ | refine WrOb.u32 ?_ | refine WrOb.u64 ?_ | refine Cases.y ?_ | refine Cases.n ?_ | refine Idx.g rfl ?_ | refine Idx.z rfl ?_ | refine DrawOb.start ?_ | refine TryF.f ?_ | refine TryF.next rfl ?_ | refine TryF.other ?_ | refine TryA.g ?_ | refine TryA.next rfl ?_ | refine TryA.other ?_ | refine TryS.g ?_ | refine TryS.next rfl ?_ | refine TryS.other ?_ | refine TryG.g ?_ | refine TryG.next rfl ?_ | refine TryG.other ?_ | refine TryT.g ?_ | refine Sp.g (g) ?_)
            exact ⟨s + 1, [], ⟨by omega, by omega, e⟩, by show n - (s + 1) < n - s; omega, Ent.g⟩
        · have e := next fun _ => by rw [decide_eq_false h1, decide_eq_false h2]; rfl
          clear next bad
          repeat' ((conv => whnf); first | refine Ob.g ?_ | refine WrOb.g ?_ | refine WrOb.u32 ?_ | refine WrOb.u64 ?_ | refine Cases.y ?_ | refine Cases.n ?_ | refine Idx.g rfl ?_ | refine Idx.z rfl ?_ | refine DrawOb.start ?_ | refine TryF.f ?_ | refine TryF.next rfl ?_ | refine TryF.other ?_ | refine TryA.g ?_ | refine TryA.next rfl ?_ | refine TryA.other ?_ | refine TryS.g ?_ | refine TryS.next rfl ?_ | refine TryS.other ?_ | refine TryG.g ?_ | refine TryG.next rfl ?_ | refine TryG.other ?_ | refine TryT.g ?_ | refine Sp.g (g) ?_)
          exact ⟨s + 1, [], ⟨by omega, by omega, e⟩, by show n - (s + 1) < n - s; omega, Ent.g⟩
    · have e := next fun h => absurd h hg
      clear next bad
      repeat' ((conv => whnf); first | refine Ob.g ?_ | refine WrOb.g ?_ | refine WrOb.u32 ?_ | refine WrOb.u64 ?_ | refine Cases.y ?_ | refine Cases.n ?_ | refine Idx.g rfl ?_ | refine Idx.z rfl ?_ | refine DrawOb.start ?_ | refine TryF.f ?_ | refine TryF.next rfl ?_ | refine TryF.other ?_ | refine TryA.g ?_ | refine TryA.next rfl ?_ | refine TryA.other ?_ | refine TryS.g ?_ | refine TryS.next rfl ?_ | refine TryS.other ?_ | refine TryG.g ?_ | refine TryG.next rfl ?_ | refine TryG.other ?_ | refine TryT.g ?_ | refine Sp.g (g) ?_)
      exact ⟨s + 1, [], ⟨by omega, by omega, e⟩, by show n - (s + 1) < n - s; omega, Ent.g⟩
  · have e : leB n c d = true := List.all_eq_true.2 fun t ht => by
      have ht' := List.mem_range.1 ht
      by_cases h2 : t < 2
      · rw [decide_eq_true h2]; rfl
      · by_cases h3 : Nat.gcd t n = 1
        · rw [k3 t (by omega) (by omega) h3, Bool.not_false, Bool.or_true]
        · rw [show (Nat.gcd t n != 1) = true from bne_iff_ne.2 h3, Bool.or_true]; rfl
    rw [e]
    repeat' ((conv => whnf); first | refine Ob.g ?_ | refine WrOb.g ?_ | refine WrOb.u32 ?_ | refine WrOb.u64 ?_ | refine Cases.y ?_ | refine Cases.n ?_ | refine Idx.g rfl ?_ | refine Idx.z rfl ?_ | refine DrawOb.start ?_ | refine TryF.f ?_ | refine TryF.next rfl ?_ | refine TryF.other ?_ | refine TryA.g ?_ | refine TryA.next rfl ?_ | refine TryA.other ?_ | refine TryS.g ?_ | refine TryS.next rfl ?_ | refine TryS.other ?_ | refine TryG.g ?_ | refine TryG.next rfl ?_ | refine TryG.other ?_ | refine TryT.g ?_)
    refine ⟨⟨_, _, rfl, rfl, ?_⟩⟩
    exact AvLe.refl _
theorem Err21_sp (n : Int) : Sp CX 71 [int .i64 n] (int .i64 (if n < 1 ∨ 120 < n then 2 else 0)) := by
  by_cases h1 : n < 1
  · rw [if_pos (.inl h1)]
    refine fn_sp (C := CX) [] [] tysX_ok mixed Tryd.func71 rfl (by kernel_rfl) Tryd.ntmps71 rfl rfl ?_
    repeat' ((conv => whnf); first | refine Ob.g ?_ | refine WrOb.g ?_ | refine WrOb.u32 ?_ | refine WrOb.u64 ?_ | refine Cases.y ?_ | refine Cases.n ?_ | refine Idx.g rfl ?_ | refine Idx.z rfl ?_ | refine DrawOb.start ?_ | refine TryF.f ?_ | refine TryF.next rfl ?_ | refine TryF.other ?_ | refine TryA.g ?_ | refine TryA.next rfl ?_ | refine TryA.other ?_ | refine TryS.g ?_ | refine TryS.next rfl ?_ | refine TryS.other ?_ | refine TryG.g ?_ | refine TryG.next rfl ?_ | refine TryG.other ?_ | refine TryT.g ?_)
    refine ⟨⟨_, _, rfl, rfl, ?_⟩⟩
    exact AvLe.refl _
  · by_cases h2 : 120 < n
    · rw [if_pos (.inr h2)]
      refine fn_sp (C := CX) [] [] tysX_ok mixed Tryd.func71 rfl (by kernel_rfl) Tryd.ntmps71 rfl rfl ?_
      repeat' ((conv => whnf); first | refine Ob.g ?_ | refine WrOb.g ?_ | refine WrOb.u32 ?_ | refine WrOb.u64 ?_ | refine Cases.y ?_ | refine Cases.n ?_ | refine Idx.g rfl ?_ | refine Idx.z rfl ?_ | refine DrawOb.start ?_ | refine TryF.f ?_ | refine TryF.next rfl ?_ | refine TryF.other ?_ | refine TryA.g ?_ | refine TryA.next rfl ?_ | refine TryA.other ?_ | refine TryS.g ?_ | refine TryS.next rfl ?_ | refine TryS.other ?_ | refine TryG.g ?_ | refine TryG.next rfl ?_ | refine TryG.other ?_ | refine TryT.g ?_)
      refine ⟨⟨_, _, rfl, rfl, ?_⟩⟩
      exact AvLe.refl _
    · rw [if_neg (by omega)]
      refine fn_sp (C := CX) [] [] tysX_ok mixed Tryd.func71 rfl (by kernel_rfl) Tryd.ntmps71 rfl rfl ?_
      repeat' ((conv => whnf); first | refine Ob.g ?_ | refine WrOb.g ?_ | refine WrOb.u32 ?_ | refine WrOb.u64 ?_ | refine Cases.y ?_ | refine Cases.n ?_ | refine Idx.g rfl ?_ | refine Idx.z rfl ?_ | refine DrawOb.start ?_ | refine TryF.f ?_ | refine TryF.next rfl ?_ | refine TryF.other ?_ | refine TryA.g ?_ | refine TryA.next rfl ?_ | refine TryA.other ?_ | refine TryS.g ?_ | refine TryS.next rfl ?_ | refine TryS.other ?_ | refine TryG.g ?_ | refine TryG.next rfl ?_ | refine TryG.other ?_ | refine TryT.g ?_)
      refine ⟨⟨_, _, rfl, rfl, ?_⟩⟩
      exact AvLe.refl _
set_option maxHeartbeats 16000000 in
theorem rList_sp (n : Nat) (hn0 : 1 ≤ n) (hn : n ≤ 120) : Sp CX 45 [int .i64 n] (.tup [.c (.sl 3 Nat (ptL n) (pt n) (pts n).length), .c (ix 0)]) := by
  have s1 := Err21_sp n
  rw [if_neg (by omega)] at s1
  refine fn_sp (C := CX) [] [0] tysX_ok mixed Tryd.func45 rfl (by kernel_rfl) Tryd.ntmps45 rfl rfl ?_
  repeat' ((conv => whnf); first | refine Ob.g ?_ | refine WrOb.g ?_ | refine WrOb.u32 ?_ | refine WrOb.u64 ?_ | refine Cases.y ?_ | refine Cases.n ?_ | refine Idx.g rfl ?_ | refine Idx.z rfl ?_ | refine DrawOb.start ?_ | refine TryF.f ?_ | refine TryF.next rfl ?_ | refine TryF.other ?_ | refine TryA.g ?_ | refine TryA.next rfl ?_ | refine TryA.other ?_ | refine TryS.g ?_ | refine TryS.next rfl ?_ | refine TryS.other ?_ | refine TryG.g ?_ | refine TryG.next rfl ?_ | refine TryG.other ?_ | refine TryT.g ?_ | refine Sp.g (s1) ?_)
  refine ⟨⟨Nat × Nat × (Nat → Nat), fun (u, k, O) => ⟨[(0, int .i64 n), (5, .v (.c (.row 0))), (6, int .i64 u)], [(0, .rw 3 96 false Nat (ptL n) O k)], 1⟩, fun (u, k, O) => u ≤ n ∧ k = cntN n (u * n) ∧ ∀ j, j < k → O j = pt n j, fun (u, _, _) => n - u, ⟨(0, 0, fun _ => 0), [.n 5 0 3 96], ⟨Nat.zero_le _, by rw [Nat.zero_mul]; rfl, fun j hj => absurd hj (Nat.not_lt_zero _)⟩, Ent.g⟩, ?_⟩⟩
  rintro ⟨u, k, O⟩ ⟨u1, hk, hO⟩
  by_cases hu : u < n
  · repeat' ((conv => whnf); first | refine Ob.g ?_ | refine WrOb.g ?_ | refine WrOb.u32 ?_ | refine WrOb.u64 ?_ | refine Cases.y ?_ | refine Cases.n ?_ | refine Idx.g rfl ?_ | refine Idx.z rfl ?_ | refine DrawOb.start ?_ | refine TryF.f ?_ | refine TryF.next rfl ?_ | refine TryF.other ?_ | refine TryA.g ?_ | refine TryA.next rfl ?_ | refine TryA.other ?_ | refine TryS.g ?_ | refine TryS.next rfl ?_ | refine TryS.other ?_ | refine TryG.g ?_ | refine TryG.next rfl ?_ | refine TryG.other ?_ | refine TryT.g ?_)
    refine ⟨⟨Nat × Nat × (Nat → Nat), fun (v, k, O) => ⟨[(0, int .i64 n), (5, .v (.c (.row 0))), (6, int .i64 u), (7, int .i64 v)], [(0, .rw 3 96 false Nat (ptL n) O k)], 1⟩, fun (v, k, O) => v ≤ n ∧ k = cntN n (u * n + v) ∧ ∀ j, j < k → O j = pt n j, fun (v, _, _) => n - v, ⟨(0, k, O), [], ⟨Nat.zero_le _, by rw [Nat.add_zero]; exact hk, hO⟩, Ent.g⟩, ?_⟩⟩
    clear hk hO
    rintro ⟨v, k, O⟩ ⟨v1, hk, hO⟩
    by_cases hv : v < n
    · have g1 := gcd18n u v (by omega) (by omega)
      have hgl : Nat.gcd u v ≤ 120 := by
        rcases Nat.eq_zero_or_pos v with h | h
        · rw [h, Nat.gcd_zero_right]; omega
        · have := Nat.gcd_le_right u h; omega
      have g2 := gcd18n (Nat.gcd u v) n (by omega) (by omega)
      have s3 := least_sp n u v hn hu hv
      have hcop := cop_cd (c := u) hv
      have hle := isN_le hu hv
      have hlt : u * n + v < n * n := by
        have : (u + 1) * n ≤ n * n := Nat.mul_le_mul_right _ hu
        rw [Nat.add_mul, Nat.one_mul] at this
        omega
      have hkl := cntN_le n (u * n + v)
      have hnn : n * n ≤ 120 * 120 := Nat.mul_le_mul hn hn
      have em : n - (v + 1) < n - v := by omega
      have no : isN n (u * n + v) = false → k = cntN n (u * n + (v + 1)) := fun h => by rw [← Nat.add_assoc, cntN_no h]; exact hk
      by_cases hc : Nat.gcd (Nat.gcd u v) n = 1
      · rw [hcop, decide_eq_true hc, Bool.true_and] at hle
        cases hb : leB n u v with
        | true =>
          rw [hb] at s3
          have hy := hle.trans hb
          have hcn := cntN_yes hy
          have hpc := pt_cnt hlt hy
          have e1 : (u * n + v) / n = u := by rw [Nat.add_comm, Nat.add_mul_div_right _ _ (by omega), Nat.div_eq_of_lt hv, Nat.zero_add]
          have e2 : (u * n + v) % n = v := by rw [Nat.add_comm, Nat.add_mul_mod_self_right, Nat.mod_eq_of_lt hv]
          have ept : ∀ j, ptL n (u * n + v) j = getL [ix u, ix v, ix 1] j := fun j => by unfold ptL; rw [e1, e2]
          have hO' : ∀ j, j < k + 1 → appZ Nat O (fun _ => u * n + v) k j = pt n j := fun j hj => by
            unfold appZ
            by_cases h : j < k
            · rw [if_pos h]; exact hO j h
            · rw [if_neg h, show j = k by omega, hk, hpc]
          clear no hle hcop
          repeat' ((conv => whnf); first | refine Ob.g ?_ | refine WrOb.g ?_ | refine WrOb.u32 ?_ | refine WrOb.u64 ?_ | refine Cases.y ?_ | refine Cases.n ?_ | refine Idx.g rfl ?_ | refine Idx.z rfl ?_ | refine DrawOb.start ?_ | refine TryF.f ?_ | refine TryF.next rfl ?_ | refine TryF.other ?_ | refine TryA.g ?_ | refine TryA.next rfl ?_ | refine TryA.other ?_ | refine TryS.g ?_ | refine TryS.next rfl ?_ | refine TryS.other ?_ | refine TryG.g ?_ | refine TryG.next rfl ?_ | refine TryG.other ?_ | refine TryT.g ?_ | refine Sp.g (g1) ?_ | refine Sp.g (g2) ?_ | refine Sp.g (s3) ?_)
          refine ⟨⟨fun _ => u * n + v, fun i j hi hj => ?_, fun _ j _ hj => ?_, ?_⟩⟩
          · obtain rfl : i = 0 := by omega
            rw [ept]
            rcases (show j = 0 ∨ j = 1 ∨ j = 2 by omega) with rfl | rfl | rfl <;> exact .refl _
          · rw [ept]
            rcases (show j = 0 ∨ j = 1 ∨ j = 2 by omega) with rfl | rfl | rfl <;> rfl
          repeat' ((conv => whnf); first | refine Ob.g ?_ | refine WrOb.g ?_ | refine WrOb.u32 ?_ | refine WrOb.u64 ?_ | refine Cases.y ?_ | refine Cases.n ?_ | refine Idx.g rfl ?_ | refine Idx.z rfl ?_ | refine DrawOb.start ?_ | refine TryF.f ?_ | refine TryF.next rfl ?_ | refine TryF.other ?_ | refine TryA.g ?_ | refine TryA.next rfl ?_ | refine TryA.other ?_ | refine TryS.g ?_ | refine TryS.next rfl ?_ | refine TryS.other ?_ | refine TryG.g ?_ | refine TryG.next rfl ?_ | refine TryG.other ?_ | refine TryT.g ?_)
          exact ⟨(v + 1, k + 1, _), [.s 0 1], ⟨hv, by rw [← Nat.add_assoc, hcn, hk], hO'⟩, em, Ent.g⟩
        | false =>
          rw [hb] at s3
          have hn2 := no (hle.trans hb)
          clear no hle hcop
          repeat' ((conv => whnf); first | refine Ob.g ?_ | refine WrOb.g ?_ | refine WrOb.u32 ?_ | refine WrOb.u64 ?_ | refine Cases.y ?_ | refine Cases.n ?_ | refine Idx.g rfl ?_ | refine Idx.z rfl ?_ | refine DrawOb.start ?_ | refine TryF.f ?_ | refine TryF.next rfl ?_ | refine TryF.other ?_ | refine TryA.g ?_ | refine TryA.next rfl ?_ | refine TryA.other ?_ | refine TryS.g ?_ | refine TryS.next rfl ?_ | refine TryS.other ?_ | refine TryG.g ?_ | refine TryG.next rfl ?_ | refine TryG.other ?_ | refine TryT.g ?_ | refine Sp.g (g1) ?_ | refine Sp.g (g2) ?_ | refine Sp.g (s3) ?_)
          exact ⟨(v + 1, k, O), [], ⟨hv, hn2, hO⟩, em, Ent.g⟩
      · rw [hcop, decide_eq_false hc, Bool.false_and] at hle
        have hn2 := no hle
        clear no hle hcop
        repeat' ((conv => whnf); first | refine Ob.g ?_ | refine WrOb.g ?_ | refine WrOb.u32 ?_ | refine WrOb.u64 ?_ | refine Cases.y ?_ | refine Cases.n ?_ | refine Idx.g rfl ?_ | refine Idx.z rfl ?_ | refine DrawOb.start ?_ | refine TryF.f ?_ | refine TryF.next rfl ?_ | refine TryF.other ?_ | refine TryA.g ?_ | refine TryA.next rfl ?_ | refine TryA.other ?_ | refine TryS.g ?_ | refine TryS.next rfl ?_ | refine TryS.other ?_ | refine TryG.g ?_ | refine TryG.next rfl ?_ | refine TryG.other ?_ | refine TryT.g ?_ | refine Sp.g (g1) ?_ | refine Sp.g (g2) ?_ | refine Sp.g (s3) ?_)
        exact ⟨(v + 1, k, O), [], ⟨hv, hn2, hO⟩, em, Ent.g⟩
    · obtain rfl : v = n := by omega
      repeat' ((conv => whnf); first | refine Ob.g ?_ | refine WrOb.g ?_ | refine WrOb.u32 ?_ | refine WrOb.u64 ?_ | refine Cases.y ?_ | refine Cases.n ?_ | refine Idx.g rfl ?_ | refine Idx.z rfl ?_ | refine DrawOb.start ?_ | refine TryF.f ?_ | refine TryF.next rfl ?_ | refine TryF.other ?_ | refine TryA.g ?_ | refine TryA.next rfl ?_ | refine TryA.other ?_ | refine TryS.g ?_ | refine TryS.next rfl ?_ | refine TryS.other ?_ | refine TryG.g ?_ | refine TryG.next rfl ?_ | refine TryG.other ?_ | refine TryT.g ?_)
      exact ⟨(u + 1, k, O), [], ⟨hu, by rw [Nat.add_mul, Nat.one_mul]; exact hk, hO⟩, by show v - (u + 1) < v - u; omega, Ent.g⟩
  · obtain rfl : u = n := by omega
    repeat' ((conv => whnf); first | refine Ob.g ?_ | refine WrOb.g ?_ | refine WrOb.u32 ?_ | refine WrOb.u64 ?_ | refine Cases.y ?_ | refine Cases.n ?_ | refine Idx.g rfl ?_ | refine Idx.z rfl ?_ | refine DrawOb.start ?_ | refine TryF.f ?_ | refine TryF.next rfl ?_ | refine TryF.other ?_ | refine TryA.g ?_ | refine TryA.next rfl ?_ | refine TryA.other ?_ | refine TryS.g ?_ | refine TryS.next rfl ?_ | refine TryS.other ?_ | refine TryG.g ?_ | refine TryG.next rfl ?_ | refine TryG.other ?_ | refine TryT.g ?_)
    refine ⟨⟨_, _, rfl, rfl, ?_⟩⟩
    have hc2 := hk.trans (cntN_end u)
    subst hc2
    exact .tup (.cons (.leaf (.sl fun i j hi _ => by rw [hO i hi]; exact .refl _)) (.cons (.refl _) .nil))
end Go.Proofs.YtedfcemebdlgfaaDoor

