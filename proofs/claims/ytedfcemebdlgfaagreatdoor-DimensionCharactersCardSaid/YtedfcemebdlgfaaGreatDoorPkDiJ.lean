/- Own texts joined: DiJ, DiK, DiL, DiM. -/
import Derived.Test.YtedfcemebdlgfaaGreatDoorPkDiE
/- Dirichlet characters: products and conjugates, walked. -/
namespace HP
/-- the conjugate -/
def cjZ (N : Int) (X : Nat → Int) (i : Nat) : Int := ((prtAt N.toNat i).o - X i).tmod (prtAt N.toNat i).o
def mlZ (N : Int) (X Y : Nat → Int) (i : Nat) : Int := (X i + Y i).tmod (prtAt N.toNat i).o
/-- the error of a product -/
def mlE (N : Int) (X : Nat → Int) (l : Nat) (M : Int) (Y : Nat → Int) (m : Nat) : Int := if chkE N X l ≠ 0 then chkE N X l else if chkE M Y m ≠ 0 then chkE M Y m else if N ≠ M then 24 else 0
end HP
namespace Go.Proofs.YtedfcemebdlgfaaGreatDoor
open Go Go.RowKit Go.VG HP
def chV (N : Int) (X : Nat → Int) (l : Nat) : V1 := .agg [ix N, xsL X l]
theorem chz_le {X : Nat → Int} {e : Int} : AvLe (.tup [.agg [.x (.int .i64 0), .x (.slice none 0 0)], .c (ix e)]) (.tup [chV 0 X 0, .c (ix e)]) :=
  .tup (.cons (.agg (.cons (.refl _) (.cons .nil .nil))) (.cons (.refl _) .nil))
theorem ch1_le {N : Int} {X Y : Nat → Int} {l m : Nat} {e : Int} (h : ∀ i, i < l → X i = Y i) (hl : l = m) : AvLe (.tup [.agg [ix N, .sl 1 Int xL X l], .c (ix e)]) (.tup [chV N Y m, .c (ix e)]) := by
  subst hl
  exact .tup (.cons (.agg (.cons (.refl _) (.cons (.sl fun i j hi _ => by show LeafLe (ix (X i)) (ix (Y i)); rw [h i hi]; exact .refl _) .nil))) (.cons (.refl _) .nil))
end Go.Proofs.YtedfcemebdlgfaaGreatDoor

/- Dirichlet characters: extended and primitive characters, walked. -/
namespace HP
theorem gen_unit_chk : allB 61 (fun n => (prts n).all fun P => Nat.gcd (genT n P) n == 1) = true := by decide +kernel
theorem gen_unit {n i : Nat} (hn : n ≤ 60) (h : i < np n) : Nat.gcd (genT n (prtAt n i)) n = 1 := by
  have := List.all_eq_true.1 (allB_at gen_unit_chk (show n < 61 by omega)) _ (prtAt_mem h)
  simpa using this
/-- the exponents of the character with the modulus m whose values are those of a character at numbers h -/
def exW (n : Nat) (E : Nat → Nat) (m : Nat) (h : Nat → Nat) (i : Nat) : Nat := (valR n E (h i : Int)).2.1 * (prtAt m i).o / (valR n E (h i : Int)).2.2
/-- the least number from g on, in steps of f, that is prime to n -/
def liftK (n f g : Nat) : Option Nat := (List.range 61).find? fun k => Nat.gcd (g + k * f) n == 1
def liftT (n f g : Nat) : Nat := g + (liftK n f g).getD 0 * f
theorem lift_chk : allB 61 (fun n => Nat.beq n 0 || allB 61 fun f => Nat.beq f 0 || n % f != 0 || (prts f).all fun P => (liftK n f (genT f P)).isSome) = true := by decide +kernel
theorem lift_at {n f i : Nat} (hn0 : 1 ≤ n) (hn : n ≤ 60) (hf : f ∣ n) (hf0 : 1 ≤ f) (hf60 : f ≤ 60) (h : i < np f) : ∃ k, liftK n f (genT f (prtAt f i)) = some k := by
  have h0 := allB_at lift_chk (show n < 61 by omega)
  rw [show Nat.beq n 0 = false from by
    rw [Bool.eq_false_iff]; intro h; have := Nat.eq_of_beq_eq_true h; omega, Bool.false_or] at h0
  have h1 := allB_at h0 (show f < 61 by omega)
  rw [show Nat.beq f 0 = false from by
    rw [Bool.eq_false_iff]; intro h; have := Nat.eq_of_beq_eq_true h; omega, Nat.mod_eq_zero_of_dvd hf] at h1
  have h2 : ((prts f).all fun P => (liftK n f (genT f P)).isSome) = true := h1
  exact Option.isSome_iff_exists.1 (List.all_eq_true.1 h2 _ (prtAt_mem h))
theorem find_range {f : Nat → Bool} {n k : Nat} (h : (List.range n).find? f = some k) : k < n ∧ f k = true ∧ ∀ j, j < k → f j = false := by
  have h1 := List.find?_some h
  have h2 := List.mem_range.1 (List.mem_of_find?_eq_some h)
  refine ⟨h2, h1, fun j hj => ?_⟩
  obtain ⟨la, lb, hab, hno⟩ := (List.find?_eq_some_iff_append.1 h).2
  have hlen : la.length = k := by
    have h3 : (List.range n)[la.length]? = some k := by rw [hab, List.getElem?_append_right (Nat.le_refl _), Nat.sub_self]; rfl
    obtain ⟨h5, h6⟩ := List.getElem?_eq_some_iff.1 h3
    rw [List.getElem_range] at h6
    exact h6
  have hmem : j ∈ la := by
    have h3 : (List.range n)[j]? = la[j]? := by rw [hab, List.getElem?_append_left (by omega)]
    rw [List.getElem?_range (by omega)] at h3
    exact List.mem_of_getElem? h3.symm
  simpa using hno j hmem
theorem val_bd {n : Nat} (hn : n ≤ 60) (E : Nat → Nat) {a : Int} (hg : Int.gcd a n = 1) : 1 ≤ (valR n E a).2.2 ∧ (valR n E a).2.2 ≤ 60 ∧ (valR n E a).2.1 < (valR n E a).2.2 ∧ (valR n E a).1 = false := by
  unfold valR
  rw [if_pos hg]
  have hd := dn_pos hn (np n) (Nat.le_refl _)
  obtain ⟨_, f2, _, f4, f5⟩ := rt_facts (N := sm n (lgs n a) E (np n)) hd
  exact ⟨f2, Nat.le_trans (Nat.le_of_dvd hd f5) (Go.Proofs.YtedfcemebdlgfaaGreatDoor.dn_le hn (Nat.le_refl _)), f4, rfl⟩
def exE (N : Int) (X : Nat → Int) (l : Nat) (M : Int) : Int := if chkE N X l ≠ 0 then chkE N X l else if M < 1 ∨ 60 < M then 2 else if M.tmod N ≠ 0 then 14 else 0
def extW (N : Int) (X : Nat → Int) (m i : Nat) : Int := (exW N.toNat (fun i => (X i).toNat) m (fun i => genT m (prtAt m i)) i : Nat)
def priW (N : Int) (X : Nat → Int) (f i : Nat) : Int := (exW N.toNat (fun i => (X i).toNat) f (fun i => liftT N.toNat f (genT f (prtAt f i))) i : Nat)
theorem cnd_dvd {n : Nat} (hn0 : 1 ≤ n) (hn : n ≤ 60) (E : Nat → Nat) : cnd n E ∣ n ∧ 1 ≤ cnd n E ∧ cnd n E ≤ 60 := by
  obtain ⟨i1, _, _⟩ := cndI_spec hn0 hn E
  have hm : cnd n E ∈ dvs n := by
    unfold cnd
    rw [List.getD_eq_getElem?_getD, List.getElem?_eq_getElem i1]
    exact List.getElem_mem i1
  have hd := (dvs_mem hn0).1 hm
  have h1 := Nat.pos_of_dvd_of_pos hd hn0
  have h2 := Nat.le_of_dvd hn0 hd
  exact ⟨hd, h1, by omega⟩
end HP
namespace Go.Proofs.YtedfcemebdlgfaaGreatDoor
open Go Go.RowKit Go.VG HP
theorem plain_ru (p : Bool × Nat × Nat) : PlainAv (.v (ruT p)) := ⟨fun _ _ _ _ _ ⟨cs, e, hc⟩ => ⟨cs, e, by
  match cs, hc with
  | [_, _, _], ⟨⟨a1, a2⟩, ⟨b1, b2⟩, ⟨c1, c2⟩, _⟩ => exact ⟨⟨a1, a2⟩, ⟨b1, b2⟩, ⟨c1, c2⟩, trivial⟩⟩⟩
def xP (n : Nat) (X : Nat → Int) (l : Nat) : AV := .v (.c (.ptr 2 fun j => getL [ix n, xsL X l] (0 + j)))
def fP (f : Nat) : AV := .v (.c (.ptr 1 fun j => getL [ix f] (0 + j)))
theorem zch_le {e : Int} {X : Nat → Int} : AvLe (.tup [.agg [.x (.int .i64 0), .x (.slice none 0 0)], .c (ix e)]) (.tup [chV 0 X 0, .c (ix e)]) := chz_le
end Go.Proofs.YtedfcemebdlgfaaGreatDoor

/- Dirichlet characters: all characters, quadratic characters, walked. -/
namespace HP
/-- the exponents of character number j, of the parts below i -/
def allZ (n : Nat) : Nat → Nat → List Nat
  | 0, _ => []
  | i + 1, j => allZ n i (j / (prtAt n i).o) ++ [j % (prtAt n i).o]
theorem allZ_len (n : Nat) : ∀ i j, (allZ n i j).length = i
  | 0, _ => rfl
  | i + 1, j => by rw [allZ, List.length_append, allZ_len n i]; rfl
theorem allZ_at {n i a k : Nat} (hk : k < (prtAt n i).o) : allZ n (i + 1) (a * (prtAt n i).o + k) = allZ n i a ++ [k] := by
  rw [allZ, Nat.add_comm, Nat.add_mul_div_right _ _ (by omega), Nat.div_eq_of_lt hk, Nat.zero_add, Nat.add_mul_mod_self_right, Nat.mod_eq_of_lt hk]
end HP
namespace Go.Proofs.YtedfcemebdlgfaaGreatDoor
open Go Go.RowKit Go.VG HP
/-- a character in a list -/
def chlL (n : Nat) (z : List Nat) (j : Nat) : Leaf := if j = 0 then ix n else if z = [] then .x (.slice none 0 0) else .sl 1 Nat nsL (fun i => z.getD i 0) z.length
theorem chlL_pure (n : Nat) (z : List Nat) (j : Nat) : pureN (chlL n z j) = true := by
  unfold chlL
  split
  · rfl
  · split <;> rfl
theorem chlL_pl (n : Nat) (z : List Nat) (j : Nat) : pureL (chlL n z j) = true := pureN_l (chlL_pure n z j)
end Go.Proofs.YtedfcemebdlgfaaGreatDoor

/- Dirichlet characters: quadratic characters, walked. -/
namespace HP
open Go.Proofs.YtedfcemebdlgfaaGreatDoor
def quE (d : Int) : Int := if d = 0 ∨ d < -60 ∨ 60 < d then 2 else if (fundOut d).2.2 ≠ 0 ∨ (fundOut d).2.1 ≠ 1 then 15 else 0
def quV (d a : Int) : Bool × Nat × Nat := if kro d a < 0 then (false, 1, 2) else (false, 0, 1)
def quW (d : Int) (i : Nat) : Int := ((quV d (genT d.natAbs (prtAt d.natAbs i))).2.1 * (prtAt d.natAbs i).o / (quV d (genT d.natAbs (prtAt d.natAbs i))).2.2 : Nat)
theorem quV_bd (d a : Int) : 1 ≤ (quV d a).2.2 ∧ (quV d a).2.2 ≤ 1000 ∧ (quV d a).2.1 ≤ 1000 := by
  unfold quV
  split <;> simp
end HP
namespace Go.Proofs.YtedfcemebdlgfaaGreatDoor
open Go Go.RowKit Go.VG HP
def dP (d : Int) : AV := .v (.c (.ptr 1 fun j => getL [ix d] (0 + j)))
end Go.Proofs.YtedfcemebdlgfaaGreatDoor

