import Derived.Test.YtjmldlbiihaefaaDoorNumD
/-! Plain number theory, fifth part: bounds on products over the factorization. -/
namespace HP

theorem facs_pow_dvd {n : Nat} (hn : 0 < n) : ∀ x ∈ facs n, x.1 ^ x.2 ∣ n := by
  induction n, hn using facs_ind with
  | h1 => rw [facs_small (by omega)]; intro x hx; cases hx
  | h2 n hb h0 hs ih =>
    rw [facs_big hb]
    intro x hx
    rcases List.mem_cons.1 hx with rfl | hx
    · exact mlt_dvd _ _
    · exact Nat.dvd_trans (ih x hx) (strip_dvd _ _)
theorem lt_two_pow (e : Nat) : e < 2 ^ e := Nat.lt_two_pow_self
theorem facs_bounds {n p e : Nat} (hn : 0 < n) (h : (p, e) ∈ facs n) : Prm p ∧ 2 ≤ p ∧ 1 ≤ e ∧ p ≤ n ∧ e ≤ n ∧ p ^ e ≤ n ∧ p ^ (e - 1) ≤ n := by
  obtain ⟨h1, h2, h3⟩ := facs_mem hn _ h
  have h4 := Nat.le_of_dvd hn (facs_pow_dvd hn _ h)
  have h5 : 2 ^ e ≤ p ^ e := Nat.pow_le_pow_left h1.1 e
  have h6 := lt_two_pow e
  have h7 : p ^ (e - 1) ≤ p ^ e := Nat.pow_le_pow_right h1.pos (by omega)
  exact ⟨h1, h1.1, h2, Nat.le_of_dvd hn h3, by simp only at h4; omega, h4, by simp only at h4; omega⟩

def pwF (p e : Nat) : Int := (p : Int) ^ e
def phiF (p e : Nat) : Int := ((p ^ (e - 1) * (p - 1) : Nat) : Int)
def psiF (p e : Nat) : Int := ((p ^ (e - 1) * (p + 1) : Nat) : Int)
def mobF (_ e : Nat) : Int := if 1 < e then 0 else -1

theorem prodL_le {f g : Nat → Nat → Int} : ∀ l : List (Nat × Nat), (∀ x ∈ l, 0 ≤ f x.1 x.2 ∧ f x.1 x.2 ≤ g x.1 x.2) → 0 ≤ prodL f l ∧ prodL f l ≤ prodL g l
  | [], _ => by simp [prodL]
  | (p, e) :: l, h => by
    obtain ⟨h1, h2⟩ := h _ (List.mem_cons_self ..)
    obtain ⟨h3, h4⟩ := prodL_le l (fun x hx => h x (List.mem_cons_of_mem _ hx))
    exact ⟨Int.mul_nonneg h1 h3, Int.mul_le_mul h2 h4 h3 (Int.le_trans h1 h2)⟩
theorem prodL_mul (f g : Nat → Nat → Int) : ∀ l : List (Nat × Nat), prodL (fun p e => f p e * g p e) l = prodL f l * prodL g l
  | [] => by simp [prodL]
  | (p, e) :: l => by
    show f p e * g p e * prodL _ l = f p e * prodL f l * (g p e * prodL g l)
    rw [prodL_mul f g l]; grind
theorem prodL_congr {f g : Nat → Nat → Int} : ∀ l : List (Nat × Nat), (∀ x ∈ l, f x.1 x.2 = g x.1 x.2) → prodL f l = prodL g l
  | [], _ => rfl
  | (p, e) :: l, h => by
    show f p e * _ = g p e * _
    rw [h _ (List.mem_cons_self ..), prodL_congr l (fun x hx => h x (List.mem_cons_of_mem _ hx))]

theorem pw_one_le {p e : Nat} (h : 1 ≤ p) : 1 ≤ pwF p e := by
  unfold pwF
  have : 0 < p ^ e := Nat.pow_pos h
  exact_mod_cast this
theorem prefix_pw {n : Nat} (hn : 0 < n) {l r : List (Nat × Nat)} (h : facs n = l ++ r) : 1 ≤ prodL pwF l ∧ prodL pwF l ≤ n := by
  have hone : ∀ m : List (Nat × Nat), (∀ x ∈ m, x ∈ facs n) → 1 ≤ prodL pwF m := by
    intro m hm
    have := prodL_le (f := fun _ _ => 1) (g := pwF) m (fun x hx => ⟨by decide, pw_one_le (by have := (facs_mem hn x (hm x hx)).1.1; omega)⟩)
    have e1 : ∀ m : List (Nat × Nat), prodL (fun _ _ => 1) m = 1 := by
      intro m; induction m with
      | nil => rfl
      | cons x m ih => obtain ⟨p, e⟩ := x; show 1 * prodL _ m = 1; rw [ih]; rfl
    rw [e1] at this
    exact this.2
  have h1 := hone l (fun x hx => by rw [h]; exact List.mem_append_left _ hx)
  have h2 := hone r (fun x hx => by rw [h]; exact List.mem_append_right _ hx)
  have h3 : prodL pwF l * prodL pwF r = n := by
    rw [← prodL_append, ← h]; exact prod_facs n hn
  refine ⟨h1, ?_⟩
  have : prodL pwF l * 1 ≤ prodL pwF l * prodL pwF r := Int.mul_le_mul_of_nonneg_left h2 (by omega)
  omega

theorem pow_pred {p e : Nat} (he : 1 ≤ e) : p ^ e = p ^ (e - 1) * p := by
  obtain ⟨k, rfl⟩ : ∃ k, e = k + 1 := ⟨e - 1, by omega⟩
  rw [Nat.pow_succ]; rfl
theorem phiF_le {p e : Nat} (hp : 2 ≤ p) (he : 1 ≤ e) : 0 ≤ phiF p e ∧ phiF p e ≤ pwF p e ∧ 1 ≤ phiF p e := by
  unfold phiF pwF
  have h1 : p ^ (e - 1) * (p - 1) ≤ p ^ (e - 1) * p := Nat.mul_le_mul_left _ (by omega)
  rw [← pow_pred he] at h1
  have h2 : 1 ≤ p ^ (e - 1) * (p - 1) := Nat.mul_pos (Nat.pow_pos (by omega)) (by omega)
  exact ⟨by omega, by exact_mod_cast h1, by exact_mod_cast h2⟩
theorem psiF_le {p e : Nat} (hp : 2 ≤ p) (he : 1 ≤ e) : 0 ≤ psiF p e ∧ psiF p e ≤ pwF p e * pwF p e := by
  unfold psiF pwF
  have h1 : p ^ (e - 1) * (p + 1) ≤ p ^ e * p ^ e := by
    have h2 : p ^ 1 ≤ p ^ e := Nat.pow_le_pow_right (by omega) he
    rw [Nat.pow_one] at h2
    have h3 : p * 2 ≤ p * p ^ e := Nat.mul_le_mul_left _ (by omega)
    have h4 : p ^ (e - 1) * (p + 1) ≤ p ^ (e - 1) * (p * p ^ e) := Nat.mul_le_mul_left _ (by omega)
    rw [← Nat.mul_assoc, ← pow_pred he] at h4
    exact h4
  exact ⟨by omega, by exact_mod_cast h1⟩
theorem mem_prefix {n : Nat} {l r : List (Nat × Nat)} (h : facs n = l ++ r) {x : Nat × Nat} (hx : x ∈ l) : x ∈ facs n := by rw [h]; exact List.mem_append_left _ hx
theorem phi_prefix {n : Nat} (hn : 0 < n) {l r : List (Nat × Nat)} (h : facs n = l ++ r) : 0 ≤ prodL phiF l ∧ prodL phiF l ≤ n := by
  obtain ⟨h1, h2⟩ := prefix_pw hn h
  have h3 := prodL_le (f := phiF) (g := pwF) l (fun x hx => by
    obtain ⟨p, e⟩ := x
    obtain ⟨a, b, c, _⟩ := facs_bounds hn (mem_prefix h hx)
    have := phiF_le b c
    exact ⟨this.1, this.2.1⟩)
  omega
theorem psi_prefix {n : Nat} (hn : 0 < n) {l r : List (Nat × Nat)} (h : facs n = l ++ r) : 0 ≤ prodL psiF l ∧ prodL psiF l ≤ (n : Int) * n := by
  obtain ⟨h1, h2⟩ := prefix_pw hn h
  have h3 := prodL_le (f := psiF) (g := fun p e => pwF p e * pwF p e) l (fun x hx => by
    obtain ⟨p, e⟩ := x
    obtain ⟨a, b, c, _⟩ := facs_bounds hn (mem_prefix h hx)
    exact psiF_le b c)
  rw [prodL_mul] at h3
  have h4 : prodL pwF l * prodL pwF l ≤ (n : Int) * n := Int.mul_le_mul h2 h2 (by omega) (by omega)
  exact ⟨h3.1, Int.le_trans h3.2 h4⟩
theorem mob_tri : ∀ l : List (Nat × Nat), Tri (prodL mobF l)
  | [] => .inr (.inl rfl)
  | (p, e) :: l => Tri.mul (by unfold mobF; split <;> simp [Tri]) (mob_tri l)
/-- Euler's function, by the formula -/
def phi (n : Nat) : Int := prodL phiF (facs n)
def psi (n : Nat) : Int := prodL psiF (facs n)
def mob (n : Nat) : Int := prodL mobF (facs n)
end HP
