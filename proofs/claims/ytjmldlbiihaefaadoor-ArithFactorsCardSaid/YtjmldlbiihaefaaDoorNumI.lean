import Derived.Test.YtjmldlbiihaefaaDoorNumH
/-! Plain number theory, ninth part: the fundamental discriminant as the program computes it. -/
namespace HP

def frF (p e : Nat) : Int := ((p ^ (e % 2) : Nat) : Int)
def sqF (p e : Nat) : Int := ((p ^ (e / 2) : Nat) : Int)
theorem frL_eq (l) : frL l = prodL frF l := rfl
theorem sqL_eq (l) : sqL l = prodL sqF l := rfl
theorem prodL_next (f : Nat → Nat → Int) {l : List (Nat × Nat)} {i p e : Nat} (h : l[i]? = some (p, e)) : prodL f (l.take (i + 1)) = prodL f (l.take i) * f p e := by
  obtain ⟨hi, he⟩ := List.getElem?_eq_some_iff.1 h
  rw [List.take_succ_eq_append_getElem hi, he, prodL_append]
  simp [prodL]
theorem part_bd {f : Nat → Nat → Int} (hf : ∀ p e, 2 ≤ p → 1 ≤ e → 1 ≤ f p e ∧ f p e ≤ pwF p e) {n : Nat} (hn : 0 < n) {l r : List (Nat × Nat)} (h : facs n = l ++ r) : 1 ≤ prodL f l ∧ prodL f l ≤ n := by
  obtain ⟨_, h2⟩ := prefix_pw hn h
  have hm : ∀ x ∈ l, 2 ≤ x.1 ∧ 1 ≤ x.2 := fun x hx => by
    obtain ⟨_, b, c, _⟩ := facs_bounds (p := x.1) (e := x.2) hn (mem_prefix h hx)
    exact ⟨b, c⟩
  have h3 := prodL_le (f := f) (g := pwF) l (fun x hx => by
    have := hf x.1 x.2 (hm x hx).1 (hm x hx).2
    exact ⟨by omega, this.2⟩)
  refine ⟨?_, by omega⟩
  have h4 := prodL_le (f := fun _ _ => 1) (g := f) l (fun x hx => ⟨by decide, (hf x.1 x.2 (hm x hx).1 (hm x hx).2).1⟩)
  have e1 : ∀ m : List (Nat × Nat), prodL (fun _ _ => 1) m = 1 := by
    intro m; induction m with
    | nil => rfl
    | cons x m ih => obtain ⟨p, e⟩ := x; show 1 * prodL _ m = 1; rw [ih]; rfl
  rw [e1] at h4
  exact h4.2
theorem pow_bd {p a b : Nat} (hp : 2 ≤ p) (h : a ≤ b) : 1 ≤ ((p ^ a : Nat) : Int) ∧ ((p ^ a : Nat) : Int) ≤ pwF p b := by
  have h1 : p ^ a ≤ p ^ b := Nat.pow_le_pow_right (by omega) h
  have h2 : 0 < p ^ a := Nat.pow_pos (by omega)
  unfold pwF
  exact ⟨by omega, by exact_mod_cast h1⟩
theorem fr_bd {n : Nat} (hn : 0 < n) {l r : List (Nat × Nat)} (h : facs n = l ++ r) : 1 ≤ frL l ∧ frL l ≤ n :=
  part_bd (f := frF) (fun p e hp he => pow_bd hp (by omega)) hn h
theorem sq_bd {n : Nat} (hn : 0 < n) {l r : List (Nat × Nat)} (h : facs n = l ++ r) : 1 ≤ sqL l ∧ sqL l ≤ n :=
  part_bd (f := sqF) (fun p e hp he => pow_bd hp (by omega)) hn h
theorem fr_take {n : Nat} (hn : 0 < n) (i : Nat) : 1 ≤ frL ((facs n).take i) ∧ frL ((facs n).take i) ≤ n := fr_bd hn (List.take_append_drop i (facs n)).symm
theorem sq_take {n : Nat} (hn : 0 < n) (i : Nat) : 1 ≤ sqL ((facs n).take i) ∧ sqL ((facs n).take i) ≤ n := sq_bd hn (List.take_append_drop i (facs n)).symm

/-- the signed square-free part -/
def fundT (d : Int) : Int := (if d < 0 then -1 else 1) * frL (facs d.natAbs)
def fundOut (d : Int) : Int × Int × Int :=
  if d = 0 ∨ 2147483647 < d ∨ d < -2147483647 then (0, 0, 2)
  else if 1 < d % 4 then (0, 0, 15)
  else if fundT d % 4 = 1 then (fundT d, sqL (facs d.natAbs), 0)
  else (4 * fundT d, sqL (facs d.natAbs) / 2, 0)

theorem fund_cases (d : Int) : fundOut d = (0, 0, 2) ∧ (d = 0 ∨ 2147483647 < d ∨ d < -2147483647) ∨ fundOut d = (0, 0, 15) ∧ ¬ (d = 0 ∨ 2147483647 < d ∨ d < -2147483647) ∧ 1 < d % 4 ∨
    ¬ (d = 0 ∨ 2147483647 < d ∨ d < -2147483647) ∧ ¬ 1 < d % 4 ∧ (fundT d % 4 = 1 ∧ fundOut d = (fundT d, sqL (facs d.natAbs), 0) ∨ ¬ fundT d % 4 = 1 ∧ fundOut d = (4 * fundT d, sqL (facs d.natAbs) / 2, 0)) := by
  unfold fundOut
  by_cases h : d = 0 ∨ 2147483647 < d ∨ d < -2147483647
  · exact .inl ⟨by rw [if_pos h], h⟩
  · by_cases h1 : 1 < d % 4
    · exact .inr (.inl ⟨by rw [if_neg h, if_pos h1], h, h1⟩)
    · refine .inr (.inr ⟨h, h1, ?_⟩)
      by_cases h2 : fundT d % 4 = 1
      · exact .inl ⟨h2, by rw [if_neg h, if_neg h1, if_pos h2]⟩
      · exact .inr ⟨h2, by rw [if_neg h, if_neg h1, if_neg h2]⟩

theorem fundT_bd {d : Int} (h : d ≠ 0) : fundT d ≠ 0 ∧ (fundT d).natAbs ≤ d.natAbs := by
  have := fr_bd (n := d.natAbs) (by omega) (r := []) (List.append_nil _).symm
  unfold fundT
  split <;> omega
/-- what the period asks of a discriminant -/
theorem fund_disc {d : Int} (h : (fundOut d).2.2 = 0) : (fundOut d).1 ≠ 0 ∧ ((fundOut d).1 % 4 = 0 ∨ (fundOut d).1 % 4 = 1) ∧ (fundOut d).1.natAbs ≤ 4 * 2147483647 := by
  rcases fund_cases d with ⟨e, _⟩ | ⟨e, _⟩ | ⟨h1, h2, ⟨h3, e⟩ | ⟨h3, e⟩⟩
  · rw [e] at h; simp at h
  · rw [e] at h; simp at h
  · rw [e]
    have := fundT_bd (d := d) (by omega)
    exact ⟨this.1, .inr h3, by simp only; omega⟩
  · rw [e]
    have := fundT_bd (d := d) (by omega)
    exact ⟨by simp only; omega, .inl (by simp only; omega), by simp only; omega⟩
end HP
