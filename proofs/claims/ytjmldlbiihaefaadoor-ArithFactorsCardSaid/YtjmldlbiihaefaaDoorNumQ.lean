import Derived.Test.YtjmldlbiihaefaaDoorNumP
import Derived.Test.YtjmldlbiihaefaaDoorNumI
/-! Plain number theory: phi and psi, prime by prime. -/
namespace HP

/-- the number after i rounds of the reference's Phi or Psi -/
def stepN (f : Nat → Nat → Int) (l : List (Nat × Nat)) (i : Nat) : Int := prodL f (l.take i) * natL (l.drop i)
theorem stepN_zero (f : Nat → Nat → Int) (l : List (Nat × Nat)) : stepN f l 0 = natL l := by unfold stepN; simp [prodL]
theorem stepN_end (f : Nat → Nat → Int) (l : List (Nat × Nat)) : stepN f l l.length = prodL f l := by
  unfold stepN; rw [List.take_length, List.drop_length]; simp [natL]
theorem stepN_step {f : Nat → Nat → Int} {l : List (Nat × Nat)} {i p e : Nat} {c : Int} (h : l[i]? = some (p, e)) (hp : 0 < p) (he : 1 ≤ e) (hf : f p e = ((p ^ (e - 1) : Nat) : Int) * c) :
    stepN f l i / p * c = stepN f l (i + 1) ∧ (stepN f l i).tdiv p * c = stepN f l (i + 1) := by
  have hil : i < l.length := (List.getElem?_eq_some_iff.1 h).1
  have hd : l.drop i = (p, e) :: l.drop (i + 1) := by
    rw [List.drop_eq_getElem_cons hil, (List.getElem?_eq_some_iff.1 h).2]
  have e1 : stepN f l i = (prodL f (l.take i) * ((p ^ (e - 1) : Nat) : Int) * natL (l.drop (i + 1))) * p := by
    unfold stepN
    rw [hd]
    show prodL f (l.take i) * ((p ^ e * natL (l.drop (i + 1)) : Nat) : Int) = _
    rw [pow_pred he, Int.natCast_mul, Int.natCast_mul]
    grind
  have e2 : stepN f l (i + 1) = prodL f (l.take i) * ((p ^ (e - 1) : Nat) : Int) * natL (l.drop (i + 1)) * c := by
    unfold stepN
    rw [prodL_next f h, hf]
    grind
  have hp0 : (p : Int) ≠ 0 := by omega
  rw [e1, e2, Int.mul_ediv_cancel _ hp0, Int.mul_tdiv_cancel _ hp0]
  exact ⟨rfl, rfl⟩
theorem natL_pw : ∀ l : List (Nat × Nat), prodL pwF l = (natL l : Int)
  | [] => rfl
  | (p, e) :: l => by
    show pwF p e * prodL pwF l = ((p ^ e * natL l : Nat) : Int)
    rw [natL_pw l, Int.natCast_mul]; unfold pwF; simp
theorem phiN_bd {N : Nat} (hN : 0 < N) (i : Nat) : 0 ≤ stepN phiF (facs N) i ∧ stepN phiF (facs N) i ≤ N := by
  have h := (List.take_append_drop i (facs N)).symm
  have hle := prodL_le (f := phiF) (g := pwF) ((facs N).take i) (fun x hx => by
    obtain ⟨p, e⟩ := x
    obtain ⟨a, b, c, _⟩ := facs_bounds hN (mem_prefix h hx)
    have := phiF_le b c
    exact ⟨this.1, this.2.1⟩)
  have e : prodL pwF ((facs N).take i) * natL ((facs N).drop i) = N := by
    rw [natL_pw, ← Int.natCast_mul, ← natL_append, ← h, natL_facs N hN]
  unfold stepN
  refine ⟨Int.mul_nonneg hle.1 (by omega), ?_⟩
  have := Int.mul_le_mul_of_nonneg_right hle.2 (show (0 : Int) ≤ natL ((facs N).drop i) by omega)
  omega
theorem phiF_eq {p e : Nat} (hp : 1 ≤ p) : phiF p e = ((p ^ (e - 1) : Nat) : Int) * ((p : Int) - 1) := by
  unfold phiF
  rw [Int.natCast_mul, Int.natCast_sub hp]; rfl
theorem psiF_eq {p e : Nat} : psiF p e = ((p ^ (e - 1) : Nat) : Int) * ((p : Int) + 1) := by
  unfold psiF
  rw [Int.natCast_mul]; rfl
end HP
