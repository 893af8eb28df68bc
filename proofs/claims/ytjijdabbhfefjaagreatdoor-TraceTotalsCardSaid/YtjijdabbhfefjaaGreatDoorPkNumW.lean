/- Own texts joined: NumW, NumX, NumY, NumZ. -/
import Derived.Test.YtjijdabbhfefjaaGreatDoorNumA
/-! Plain number theory: multiplicative functions; sums over the divisors. -/
namespace HP

theorem dvd_pow_one {p e : Nat} (he : 1 ≤ e) : p ∣ p ^ e := by
  have := Nat.pow_dvd_pow p he
  rwa [Nat.pow_one] at this
theorem facs_iff {N : Nat} (hN : 0 < N) (p e : Nat) : (p, e) ∈ facs N ↔ Prm p ∧ 1 ≤ e ∧ p ^ e ∣ N ∧ ¬ p ^ (e + 1) ∣ N := by
  constructor
  · intro h
    exact ⟨(facs_mem hN _ h).1, (facs_mem hN _ h).2.1, facs_pow_dvd hN _ h, facs_not hN _ h⟩
  · rintro ⟨hp, he, hd, hn⟩
    have h1 : p ∣ natL (facs N) := by
      rw [natL_facs N hN]
      exact Nat.dvd_trans (dvd_pow_one he) hd
    obtain ⟨⟨q, k⟩, hx, rfl⟩ := natL_prime hp (fun x hx => (facs_mem hN x hx).1) h1
    have h2 := facs_pow_dvd hN _ hx
    have h3 := facs_not hN _ hx
    have : k = e := by
      rcases Nat.lt_trichotomy k e with h | h | h
      · exact absurd (Nat.dvd_trans (Nat.pow_dvd_pow q h) hd) h3
      · exact h
      · exact absurd (Nat.dvd_trans (Nat.pow_dvd_pow q h) h2) hn
    subst this; exact hx
def sumG (G : Nat → Int) : List Nat → Int
  | [] => 0
  | d :: l => G d + sumG G l
theorem sumG_append (G : Nat → Int) : ∀ l m, sumG G (l ++ m) = sumG G l + sumG G m
  | [], m => by simp [sumG]
  | d :: l, m => by rw [List.cons_append, sumG, sumG, sumG_append G l m, Int.add_assoc]
theorem sumG_next (G : Nat → Int) {l : List Nat} {i d : Nat} (h : l[i]? = some d) : sumG G (l.take (i + 1)) = sumG G (l.take i) + G d := by
  rw [List.take_add_one, h, sumG_append]
  simp [sumG]
end HP

/-! Plain number theory: products over the primes up to a bound, taken one number at a time; the lists of the dimension formulas. -/
namespace HP

def lamF (f p e : Nat) : Int := if e < 2 * mlt p f then ((2 * p ^ (e - mlt p f) : Nat) : Int) else if e % 2 = 0 then ((p ^ (e / 2) + p ^ (e / 2 - 1) : Nat) : Int) else ((2 * p ^ ((e - 1) / 2) : Nat) : Int)
def lam (f n : Nat) : Int := prodL (lamF f) (facs n)
theorem lamF_bd {f p e : Nat} (hp : 2 ≤ p) (he : 1 ≤ e) : 1 ≤ lamF f p e ∧ lamF f p e ≤ 2 * pwF p e := by
  have hpos : ∀ k, 1 ≤ p ^ k := fun k => Nat.pow_pos (by omega)
  have hle : ∀ k, k ≤ e → p ^ k ≤ p ^ e := fun k hk => Nat.pow_le_pow_right (by omega) hk
  have e0 : pwF p e = ((p ^ e : Nat) : Int) := by unfold pwF; rw [Int.natCast_pow]
  rw [e0]
  unfold lamF
  split
  · have a := hpos (e - mlt p f)
    have b := hle (e - mlt p f) (by omega)
    omega
  · split
    · have a := hpos (e / 2)
      have b := hle (e / 2) (by omega)
      have c := hle (e / 2 - 1) (by omega)
      omega
    · have a := hpos ((e - 1) / 2)
      have b := hle ((e - 1) / 2) (by omega)
      omega
theorem prodL_le' {f g : Nat → Nat → Int} : ∀ l : List (Nat × Nat), (∀ x ∈ l, 1 ≤ f x.1 x.2 ∧ f x.1 x.2 ≤ g x.1 x.2) → 1 ≤ prodL f l ∧ prodL f l ≤ prodL g l
  | [], _ => ⟨Int.le_refl _, Int.le_refl _⟩
  | (p, e) :: l, h => by
    obtain ⟨a, b⟩ := h _ (List.mem_cons_self ..)
    obtain ⟨c, d⟩ := prodL_le' l fun x hx => h x (List.mem_cons_of_mem _ hx)
    have e1 : 1 * 1 ≤ f p e * prodL f l := Int.mul_le_mul a c (by omega) (by simp at a; omega)
    have e2 : f p e * prodL f l ≤ g p e * prodL g l := Int.mul_le_mul b d (by omega) (by simp at a b; omega)
    rw [Int.mul_one] at e1
    exact ⟨e1, e2⟩
theorem two_pw {p e : Nat} (hp : 2 ≤ p) (he : 1 ≤ e) : 2 * pwF p e ≤ pwF p e * pwF p e := by
  have h1 : p ^ 1 ≤ p ^ e := Nat.pow_le_pow_right (by omega) he
  have e0 : pwF p e = ((p ^ e : Nat) : Int) := by unfold pwF; rw [Int.natCast_pow]
  rw [e0]
  rw [Nat.pow_one] at h1
  have h2 : 2 * p ^ e ≤ p ^ e * p ^ e := Nat.mul_le_mul_right _ (Nat.le_trans hp h1)
  exact_mod_cast h2
theorem lam_pre (f : Nat) {n : Nat} (hn : 0 < n) (i : Nat) : 1 ≤ prodL (lamF f) ((facs n).take i) ∧ prodL (lamF f) ((facs n).take i) ≤ (n : Int) * n := by
  have hx : facs n = (facs n).take i ++ (facs n).drop i := (List.take_append_drop i _).symm
  have hm : ∀ x ∈ (facs n).take i, 2 ≤ x.1 ∧ 1 ≤ x.2 := fun x h => by
    have h1 : (x.1, x.2) ∈ facs n := List.mem_of_mem_take h
    have := facs_bounds hn h1
    exact ⟨this.2.1, this.2.2.1⟩
  obtain ⟨a, b⟩ := prodL_le' (f := lamF f) (g := fun p e => pwF p e * pwF p e) _ fun x h => ⟨(lamF_bd (f := f) (hm x h).1 (hm x h).2).1, Int.le_trans (lamF_bd (hm x h).1 (hm x h).2).2 (two_pw (hm x h).1 (hm x h).2)⟩
  rw [prodL_mul] at b
  obtain ⟨c, d⟩ := prefix_pw hn hx
  have : prodL pwF ((facs n).take i) * prodL pwF ((facs n).take i) ≤ (n : Int) * n := Int.mul_le_mul d d (by omega) (by omega)
  exact ⟨a, by omega⟩
theorem lam_bd (f : Nat) {n : Nat} (hn : 0 < n) : 1 ≤ lam f n ∧ lam f n ≤ (n : Int) * n := by
  have := lam_pre f hn (facs n).length
  rw [List.take_length] at this
  exact this
def rootS (n c : Nat) (g : Nat → Int) : Nat → Int
  | 0 => 0
  | a + 1 => rootS n c g a + if (a * a + c * a + 1) % n = 0 then g a else 0
theorem rootS_bd {n c : Nat} {g : Nat → Int} {B : Int} (hB : 0 ≤ B) (hg : ∀ a, -B ≤ g a ∧ g a ≤ B) : ∀ m : Nat, -(B * m) ≤ rootS n c g m ∧ rootS n c g m ≤ B * m
  | 0 => by simp [rootS]
  | m + 1 => by
    have h1 := hg m
    have h2 := rootS_bd (n := n) (c := c) hB hg m
    rw [rootS, Int.natCast_add, Int.mul_add]
    simp only [Int.natCast_one, Int.mul_one]
    split <;> omega
def rootR (n c : Nat) (g : Nat → Int) : Nat → Int
  | 0 => 0
  | a + 1 => rootR n c g a + if ((a + 1) * (a + 1) + c * (a + 1) + 1) % n = 0 then g (a + 1) else 0
theorem rootS_shift {n c : Nat} (g h : Nat → Int) (h0 : ∀ a, 0 < a → g a = h a) : ∀ m, rootS n c g (m + 1) = (if (0 * 0 + c * 0 + 1) % n = 0 then g 0 else 0) + rootR n c h m
  | 0 => by simp [rootS, rootR]
  | m + 1 => by rw [rootS, rootS_shift g h h0 m, rootR, h0 (m + 1) (by omega), Int.add_assoc]
theorem rootS_rootR {n c : Nat} (hn : 0 < n) (g h : Nat → Int) (h0 : ∀ a, 0 < a → g a = h a) (h1 : g 0 = h n) : rootS n c g n = rootR n c h n := by
  obtain ⟨m, rfl⟩ : ∃ m, n = m + 1 := ⟨n - 1, by omega⟩
  rw [rootS_shift g h h0 m, rootR, h1, Int.add_comm]
  congr 1
  have e : ((m + 1) * (m + 1) + c * (m + 1) + 1) % (m + 1) = (0 * 0 + c * 0 + 1) % (m + 1) := by
    rw [show (m + 1) * (m + 1) + c * (m + 1) + 1 = 1 + (m + 1 + c) * (m + 1) by grind, Nat.add_mul_mod_self_right]
    simp
  rw [e]

def dim12 (n k f : Nat) (four three : Int) : Int :=
  ((k : Int) - 1) * psi n - 6 * lam f n + (if k = 2 ∧ f = 1 then 12 else 0) + (if k % 4 = 0 then 3 * four else if k % 4 = 2 then -(3 * four) else 0) + (if k % 3 = 0 then 2 * three else if k % 3 = 2 then -(2 * three) else 0)
def cuspV (n k : Nat) (D : Int) : Int :=
  (dim12 n k D.natAbs (rootR n 0 (fun a => jac D a) n) (rootR n 1 (fun a => 2 * jac D a) n)).tdiv 12
end HP

/-! Plain: the factorizations of the numbers up to 120, reckoned by the kernel. -/
namespace HP

def prmC (p : Nat) : Bool := decide (2 ≤ p) && (List.range (p - 2)).all fun d => !(p % (d + 2) == 0)
theorem prmC_prm {p : Nat} (h : prmC p = true) : Prm p := by
  unfold prmC at h
  rw [Bool.and_eq_true, decide_eq_true_iff, List.all_eq_true] at h
  obtain ⟨h1, h2⟩ := h
  refine ⟨h1, fun d hd => ?_⟩
  have hle := Nat.le_of_dvd (by omega) hd
  rcases Nat.lt_trichotomy d 1 with h | h | h
  · have : d = 0 := by omega
    subst this
    have := Nat.eq_zero_of_zero_dvd hd
    omega
  · exact .inl h
  · right
    apply Nat.le_antisymm hle
    apply Nat.le_of_not_lt
    intro hlt
    have := h2 (d - 2) (List.mem_range.2 (by omega))
    rw [show d - 2 + 2 = d by omega, Nat.mod_eq_zero_of_dvd hd] at this
    simp at this
theorem prm_prmC {p : Nat} (h : Prm p) : prmC p = true := by
  unfold prmC
  rw [Bool.and_eq_true, decide_eq_true_iff, List.all_eq_true]
  refine ⟨h.1, fun d hd => ?_⟩
  have hd := List.mem_range.1 hd
  have : ¬ p % (d + 2) = 0 := fun h0 => by
    rcases h.2 _ (Nat.dvd_of_mod_eq_zero h0) with h1 | h1 <;> omega
  simpa using this
def mltC (p : Nat) : Nat → Nat → Nat
  | 0, _ => 0
  | f + 1, n => if n % p = 0 then mltC p f (n / p) + 1 else 0
theorem mltC_eq {p : Nat} (hp : 2 ≤ p) : ∀ (f n : Nat), 0 < n → n ≤ f → mltC p f n = mlt p n
  | 0, n, h0, h => absurd h (by omega)
  | f + 1, n, h0, h => by
    rw [mltC]
    split
    · next hm =>
      have hd : 0 < n / p := Nat.div_pos (Nat.le_of_dvd h0 (Nat.dvd_of_mod_eq_zero hm)) (by omega)
      have hl : n / p < n := Nat.div_lt_self h0 (by omega)
      rw [mltC_eq hp f _ hd (by omega), mlt_yes hp h0 hm, Nat.add_comm]
    · next hm => rw [mlt_no hm]
def facA : Nat → Nat → Nat → List (Nat × Nat)
  | 0, _, _ => []
  | f + 1, p, n => if n < 2 then [] else if n % p = 0 then (p, mltC p 7 n) :: facA f (p + 1) (n / p ^ mltC p 7 n) else facA f (p + 1) n
def facC (n : Nat) : List (Nat × Nat) := facA n 2 n
def ascC : Nat → List (Nat × Nat) → Bool
  | _, [] => true
  | b, (p, e) :: l => decide (b < p) && prmC p && decide (0 < e) && ascC p l
theorem ascC_asc : ∀ {b : Nat} {l : List (Nat × Nat)}, ascC b l = true → Asc b l
  | _, [], _ => trivial
  | b, (p, e) :: l, h => by
    unfold ascC at h
    rw [Bool.and_eq_true, Bool.and_eq_true, Bool.and_eq_true, decide_eq_true_iff, decide_eq_true_iff] at h
    exact ⟨h.1.1.1, prmC_prm h.1.1.2, h.1.2, ascC_asc h.2⟩
def allB (n : Nat) (f : Nat → Bool) : Bool := (List.range n).all f
theorem allB_at {n : Nat} {f : Nat → Bool} (h : allB n f = true) {i : Nat} (hi : i < n) : f i = true := by
  unfold allB at h
  rw [List.all_eq_true] at h
  exact h i (List.mem_range.2 hi)
theorem fac_all : allB 121 (fun n => decide (n = 0) || (ascC 1 (facC n) && (natL (facC n) == n))) = true := by decide +kernel
theorem facs_C {n : Nat} (h1 : 1 ≤ n) (h2 : n ≤ 120) : facs n = facC n := by
  have h := allB_at fac_all (show n < 121 by omega)
  rw [Bool.or_eq_true, decide_eq_true_iff, Bool.and_eq_true, beq_iff_eq] at h
  rcases h with h | ⟨ha, hb⟩
  · omega
  · have := facs_of _ (ascC_asc ha)
    rwa [hb] at this
def prodC (f : Nat → Nat → Int) (n : Nat) : Int := prodL f (facC n)
theorem psi_C {n : Nat} (h1 : 1 ≤ n) (h2 : n ≤ 120) : psi n = prodC psiF n := by unfold psi prodC; rw [facs_C h1 h2]
theorem phi_C {n : Nat} (h1 : 1 ≤ n) (h2 : n ≤ 120) : phi n = prodC phiF n := by unfold phi prodC; rw [facs_C h1 h2]
def lamG (f p e : Nat) : Int := if e < 2 * mltC p f f then ((2 * p ^ (e - mltC p f f) : Nat) : Int) else if e % 2 = 0 then ((p ^ (e / 2) + p ^ (e / 2 - 1) : Nat) : Int) else ((2 * p ^ ((e - 1) / 2) : Nat) : Int)
theorem lam_C {f n : Nat} (hf : 0 < f) (h1 : 1 ≤ n) (h2 : n ≤ 120) : lam f n = prodC (lamG f) n := by
  unfold lam prodC
  rw [← facs_C h1 h2]
  refine prodL_congr _ fun x hx => ?_
  have := (facs_mem (by omega) x hx).1.1
  unfold lamG lamF
  rw [mltC_eq this f f hf (Nat.le_refl _)]
end HP

/-! Plain: the sums over roots of the dimension formulas; the sum over the divisors. -/
namespace HP

theorem rootR_bd {n c : Nat} {g : Nat → Int} {B : Int} (hB : 0 ≤ B) (hg : ∀ a, 0 < a → -B ≤ g a ∧ g a ≤ B) : ∀ m : Nat, -(B * m) ≤ rootR n c g m ∧ rootR n c g m ≤ B * m
  | 0 => by simp [rootR]
  | m + 1 => by
    have h1 := hg (m + 1) (by omega)
    have h2 := rootR_bd (n := n) (c := c) hB hg m
    rw [rootR, Int.natCast_add, Int.mul_add]
    simp only [Int.natCast_one, Int.mul_one]
    split <;> omega
theorem kro_shift {D : Int} {a n : Nat} (h0 : D ≠ 0) (h4 : D % 4 = 0 ∨ D % 4 = 1) (hd : D.natAbs ∣ n) (ha : 0 < a) : kro D ((a : Int) + n) = jac D a := by
  obtain ⟨k, rfl⟩ := hd
  rw [kro_pos (by omega), show ((a : Int) + ((D.natAbs * k : Nat) : Int)).toNat = a + k * D.natAbs by rw [Nat.mul_comm]; omega]
  exact jac_period h0 h4 a k ha
theorem kro_zero_shift {D : Int} {n : Nat} (hn : 0 < n) : kro D (((0 : Nat) : Int) + n) = jac D n := by
  rw [kro_pos (by omega)]
  congr 1
  omega
theorem four_eq {D : Int} {n c : Nat} (h0 : D ≠ 0) (h4 : D % 4 = 0 ∨ D % 4 = 1) (hd : D.natAbs ∣ n) (hn : 0 < n) : rootS n c (fun a => kro D ((a : Int) + n)) n = rootR n c (fun a => jac D a) n :=
  rootS_rootR hn _ _ (fun _ ha => kro_shift h0 h4 hd ha) (kro_zero_shift hn)
theorem three_eq {D : Int} {n c : Nat} (h0 : D ≠ 0) (h4 : D % 4 = 0 ∨ D % 4 = 1) (hd : D.natAbs ∣ n) (hn : 0 < n) : rootS n c (fun a => 2 * kro D ((a : Int) + n)) n = rootR n c (fun a => 2 * jac D a) n :=
  rootS_rootR hn _ _ (fun _ ha => by rw [kro_shift h0 h4 hd ha]) (by rw [kro_zero_shift hn])
theorem jac_bd {D : Int} {a : Nat} (ha : 0 < a) : -1 ≤ jac D a ∧ jac D a ≤ 1 := by rcases jac_tri D a ha with h | h | h <;> omega
theorem four_bd (D : Int) (n c m : Nat) : -(m : Int) ≤ rootR n c (fun a => jac D a) m ∧ rootR n c (fun a => jac D a) m ≤ m := by
  have := rootR_bd (n := n) (c := c) (g := fun a => jac D a) (B := 1) (by omega) (fun a ha => jac_bd ha) m
  omega
theorem three_bd (D : Int) (n c m : Nat) : -(2 * m : Int) ≤ rootR n c (fun a => 2 * jac D a) m ∧ rootR n c (fun a => 2 * jac D a) m ≤ 2 * m := by
  have := rootR_bd (n := n) (c := c) (g := fun a => 2 * jac D a) (B := 2) (by omega) (fun a ha => by have := jac_bd (D := D) ha; omega) m
  omega
theorem sumG_bdm {G : Nat → Int} {B : Int} (hB : 0 ≤ B) : ∀ l : List Nat, (∀ d ∈ l, -B ≤ G d ∧ G d ≤ B) → -(B * l.length) ≤ sumG G l ∧ sumG G l ≤ B * l.length
  | [], _ => by simp [sumG]
  | d :: l, h => by
    have h1 := h d (List.mem_cons_self ..)
    have h2 := sumG_bdm hB l fun x hx => h x (List.mem_cons_of_mem _ hx)
    rw [sumG, List.length_cons, Int.natCast_add, Int.mul_add]
    simp only [Int.natCast_one, Int.mul_one]
    omega
theorem tdiv_bd {d k B : Int} (h1 : -B ≤ d) (h2 : d ≤ B) : -B ≤ d.tdiv k ∧ d.tdiv k ≤ B := by
  have h := Int.natAbs_tdiv d k
  have h3 := Nat.div_le_self d.natAbs k.natAbs
  change (d.tdiv k).natAbs = d.natAbs / k.natAbs at h
  generalize d.tdiv k = x at *
  generalize d.natAbs / k.natAbs = y at *
  omega
theorem psi_sm {n : Nat} (h1 : 1 ≤ n) (h2 : n ≤ 120) : 1 ≤ psi n ∧ psi n ≤ 400 := by
  have h : allB 121 (fun n => decide (n = 0) || (decide (1 ≤ prodC psiF n) && decide (prodC psiF n ≤ 400))) = true := by decide +kernel
  have := allB_at h (show n < 121 by omega)
  simp only [Bool.or_eq_true, Bool.and_eq_true, decide_eq_true_eq] at this
  rw [psi_C h1 h2]
  exact this.resolve_left (by omega)
theorem cuspV_bd {n k : Nat} (D : Int) (h1 : 1 ≤ n) (h2 : n ≤ 120) (hk : 1 ≤ k) (hk2 : k ≤ 24) : -100000 ≤ cuspV n k D ∧ cuspV n k D ≤ 100000 := by
  have a := psi_sm h1 h2
  have b := lam_bd D.natAbs (n := n) (by omega)
  have c : (n : Int) * n ≤ 120 * 120 := Int.mul_le_mul (by omega) (by omega) (by omega) (by omega)
  have d : ((k : Int) - 1) * psi n ≤ 23 * 400 := Int.mul_le_mul (by omega) (by omega) (by omega) (by omega)
  have e : 0 ≤ ((k : Int) - 1) * psi n := Int.mul_nonneg (by omega) (by omega)
  have f := four_bd D n 0 n
  have g := three_bd D n 1 n
  unfold cuspV
  refine tdiv_bd ?_ ?_ <;> (unfold dim12; (repeat' split) <;> omega)
end HP

