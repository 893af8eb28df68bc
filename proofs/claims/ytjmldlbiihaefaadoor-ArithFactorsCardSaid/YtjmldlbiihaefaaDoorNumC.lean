import Derived.Test.YtjmldlbiihaefaaDoorNumB
/-! Plain number theory, third part: the factorization as a list. -/
namespace HP

/-- how often p divides n -/
def mlt (p n : Nat) : Nat := if _h : 2 ≤ p ∧ 0 < n ∧ n % p = 0 then 1 + mlt p (n / p) else 0
termination_by n
decreasing_by exact Nat.div_lt_self _h.2.1 _h.1

theorem mlt_yes {p n : Nat} (hp : 2 ≤ p) (hn : 0 < n) (h : n % p = 0) : mlt p n = 1 + mlt p (n / p) := by
  rw [mlt, dif_pos ⟨hp, hn, h⟩]
theorem mlt_no {p n : Nat} (h : n % p ≠ 0) : mlt p n = 0 := by
  rw [mlt, dif_neg (fun h1 => h h1.2.2)]
theorem mlt_dvd (p n : Nat) : p ^ mlt p n ∣ n := by
  induction n using Nat.strongRecOn with
  | _ n ih =>
    by_cases h : 2 ≤ p ∧ 0 < n ∧ n % p = 0
    · rw [mlt_yes h.1 h.2.1 h.2.2, Nat.add_comm, Nat.pow_succ]
      obtain ⟨k, hk⟩ := ih (n / p) (Nat.div_lt_self h.2.1 h.1)
      refine ⟨k, ?_⟩
      have e : n = n / p * p := (Nat.div_mul_cancel (Nat.dvd_of_mod_eq_zero h.2.2)).symm
      generalize p ^ mlt p (n / p) = x at *
      rw [e, hk]; grind
    · rw [mlt, dif_neg h, Nat.pow_zero]; exact Nat.one_dvd _
/-- what is left of n without p -/
def strip (p n : Nat) : Nat := n / p ^ mlt p n
theorem strip_mul (p n : Nat) : p ^ mlt p n * strip p n = n := Nat.mul_div_cancel' (mlt_dvd p n)
theorem strip_yes {p n : Nat} (hp : 2 ≤ p) (hn : 0 < n) (h : n % p = 0) : strip p n = strip p (n / p) := by
  unfold strip
  rw [mlt_yes hp hn h, Nat.add_comm, Nat.pow_succ, Nat.mul_comm, Nat.div_div_eq_div_mul]
theorem strip_no {p n : Nat} (h : n % p ≠ 0) : strip p n = n := by
  unfold strip; rw [mlt_no h]; simp
theorem strip_pos (p n : Nat) (hn : 0 < n) : 0 < strip p n := by
  rcases Nat.eq_zero_or_pos (strip p n) with h | h
  · have := strip_mul p n; rw [h] at this; omega
  · exact h
theorem strip_dvd (p n : Nat) : strip p n ∣ n := ⟨p ^ mlt p n, by rw [Nat.mul_comm]; exact (strip_mul p n).symm⟩
theorem strip_not {p n : Nat} (hp : 2 ≤ p) (hn : 0 < n) : ¬ p ∣ strip p n := by
  induction n using Nat.strongRecOn with
  | _ n ih =>
    by_cases h : n % p = 0
    · rw [strip_yes hp hn h]
      exact ih _ (Nat.div_lt_self hn hp) (Nat.div_pos (Nat.le_of_dvd hn (Nat.dvd_of_mod_eq_zero h)) (by omega))
    · rw [strip_no h]; intro hd; exact h (Nat.mod_eq_zero_of_dvd hd)
theorem strip_lt {p n : Nat} (hp : 2 ≤ p) (hn : 0 < n) (h : p ∣ n) : strip p n < n := by
  rw [strip_yes hp hn (Nat.mod_eq_zero_of_dvd h)]
  have h1 : n / p < n := Nat.div_lt_self hn hp
  have h2 := Nat.le_of_dvd (Nat.div_pos (Nat.le_of_dvd hn h) (by omega)) (strip_dvd p (n / p))
  omega
theorem mlt_pos {p n : Nat} (hp : 2 ≤ p) (hn : 0 < n) (h : p ∣ n) : 0 < mlt p n := by
  rw [mlt_yes hp hn (Nat.mod_eq_zero_of_dvd h)]; omega

/-- the factorization: ascending prime powers -/
def facs (n : Nat) : List (Nat × Nat) := if _h : 2 ≤ n then (lpf n, mlt (lpf n) n) :: facs (strip (lpf n) n) else []
termination_by n
decreasing_by exact strip_lt (lpf_spec _h).2.1 (by omega) (lpf_spec _h).1

theorem facs_small {n : Nat} (h : n ≤ 1) : facs n = [] := by rw [facs, dif_neg (by omega)]
theorem facs_big {n : Nat} (h : 2 ≤ n) : facs n = (lpf n, mlt (lpf n) n) :: facs (strip (lpf n) n) := by rw [facs, dif_pos h]
/-- no divisor below p -/
def Rough (p n : Nat) : Prop := ∀ e, 2 ≤ e → e < p → ¬ e ∣ n
theorem rough_two (n) : Rough 2 n := fun e h1 h2 => by omega
theorem rough_next {p n : Nat} (h : Rough p n) (hd : ¬ p ∣ n) : Rough (p + 1) n := fun e h1 h2 he => by
  by_cases hep : e = p
  · subst hep; exact hd he
  · exact h e h1 (by omega) he
theorem rough_dvd {p n m : Nat} (h : Rough p n) (hd : m ∣ n) : Rough p m := fun e h1 h2 he => h e h1 h2 (Nat.dvd_trans he hd)
/-- the round at a divisor -/
theorem facs_round {p n : Nat} (hp : 2 ≤ p) (hn : 0 < n) (hr : Rough p n) (hd : p ∣ n) : facs n = (p, mlt p n) :: facs (strip p n) ∧ Prm p := by
  have h1 := Nat.le_of_dvd hn hd
  have e := lpf_eq hd hn hp hr
  rw [facs_big (by omega), e]
  exact ⟨rfl, e ▸ lpf_prm (by omega)⟩
/-- the last round -/
theorem rough_prime {p n : Nat} (hn : 2 ≤ n) (hr : Rough p n) (h : n < p * p) : Prm n ∧ Rough n n := by
  have key : Rough n n := by
    intro e h1 h2 hd
    obtain ⟨k, hk⟩ := hd
    have hep : p ≤ e := Nat.le_of_not_lt fun h3 => hr e h1 h3 ⟨k, hk⟩
    have hk2 : 2 ≤ k := by
      rcases Nat.lt_or_ge k 2 with h3 | h3
      · have : k = 0 ∨ k = 1 := by omega
        rcases this with rfl | rfl <;> omega
      · exact h3
    have hkp : p ≤ k := Nat.le_of_not_lt fun h3 => hr k hk2 h3 ⟨e, by rw [hk, Nat.mul_comm]⟩
    have := Nat.mul_le_mul hep hkp
    omega
  exact ⟨prm_of_least (Nat.dvd_refl n) hn key, key⟩
theorem mlt_self {p : Nat} (hp : 2 ≤ p) : mlt p p = 1 ∧ strip p p = 1 := by
  have h := Nat.mod_self p
  have h1 : 1 % p ≠ 0 := by rw [Nat.mod_eq_of_lt (by omega)]; decide
  rw [mlt_yes hp (by omega) h, strip_yes hp (by omega) h, Nat.div_self (by omega), mlt_no h1, strip_no h1]
  exact ⟨rfl, rfl⟩
theorem facs_prime {p : Nat} (hp : Prm p) : facs p = [(p, 1)] := by
  have hr : Rough p p := fun e h1 h2 hd => by rcases hp.2 e hd with h | h <;> omega
  rw [(facs_round hp.1 hp.pos hr (Nat.dvd_refl p)).1, (mlt_self hp.1).1, (mlt_self hp.1).2, facs_small (by omega)]

/-- products over the list -/
def prodL (f : Nat → Nat → Int) : List (Nat × Nat) → Int
  | [] => 1
  | (p, e) :: l => f p e * prodL f l
theorem prodL_append (f) : ∀ l m, prodL f (l ++ m) = prodL f l * prodL f m
  | [], m => by simp [prodL]
  | (p, e) :: l, m => by simp [prodL, prodL_append f l m, Int.mul_assoc]
theorem facs_ind {P : (n : Nat) → 0 < n → Prop} (h1 : P 1 (by omega))
    (h2 : ∀ n (_ : 2 ≤ n) (h0 : 0 < n) (hs : 0 < strip (lpf n) n), P (strip (lpf n) n) hs → P n h0) (n : Nat) (hn : 0 < n) : P n hn := by
  induction n using Nat.strongRecOn with
  | _ n ih =>
    by_cases hb : 2 ≤ n
    · exact h2 n hb hn (strip_pos _ _ hn) (ih _ (strip_lt (lpf_spec hb).2.1 hn (lpf_spec hb).1) _)
    · have : n = 1 := by omega
      subst this; exact h1
theorem ext_facs (f : Nat → Int) (n : Nat) (hn : 0 < n) : ext f n = prodL (fun p e => f p ^ e) (facs n) := by
  induction n, hn using facs_ind with
  | h1 => rw [ext_one, facs_small (by omega)]; rfl
  | h2 n hb h0 hs ih =>
    have hp := lpf_prm hb
    rw [facs_big hb]
    show _ = f _ ^ _ * prodL _ _
    rw [← ih, ← ext_prime f hp, ← ext_pow _ _ hp.pos, ← ext_mul _ _ _ (Nat.pow_pos hp.pos) hs, strip_mul]
theorem prod_facs (n : Nat) (hn : 0 < n) : prodL (fun p e => (p : Int) ^ e) (facs n) = n := by
  induction n, hn using facs_ind with
  | h1 => rw [facs_small (by omega)]; rfl
  | h2 n hb h0 hs ih =>
    rw [facs_big hb]
    show (_ : Int) ^ _ * prodL _ _ = _
    rw [ih]
    have := strip_mul (lpf n) n
    generalize strip (lpf n) n = s at *
    generalize lpf n = p at *
    generalize mlt p n = e at *
    rw [← this]
    simp
theorem facs_mem {n : Nat} (hn : 0 < n) : ∀ x ∈ facs n, Prm x.1 ∧ 0 < x.2 ∧ x.1 ∣ n := by
  induction n, hn using facs_ind with
  | h1 => rw [facs_small (by omega)]; intro x hx; cases hx
  | h2 n hb h0 hs ih =>
    rw [facs_big hb]
    intro x hx
    have hl := lpf_spec hb
    rcases List.mem_cons.1 hx with rfl | hx
    · exact ⟨lpf_prm hb, mlt_pos hl.2.1 h0 hl.1, hl.1⟩
    · obtain ⟨a, b, c⟩ := ih x hx
      exact ⟨a, b, Nat.dvd_trans c (strip_dvd _ _)⟩
theorem facs_len {n : Nat} (hn : 0 < n) : (facs n).length < n := by
  induction n, hn using facs_ind with
  | h1 => rw [facs_small (by omega)]; decide
  | h2 n hb h0 hs ih =>
    have := strip_lt (lpf_spec hb).2.1 h0 (lpf_spec hb).1
    rw [facs_big hb, List.length_cons]; omega
theorem prefix_len {n : Nat} (hn : 0 < n) {l r : List (Nat × Nat)} (h : facs n = l ++ r) : l.length < n := by
  have := facs_len hn
  rw [h, List.length_append] at this
  omega
end HP
