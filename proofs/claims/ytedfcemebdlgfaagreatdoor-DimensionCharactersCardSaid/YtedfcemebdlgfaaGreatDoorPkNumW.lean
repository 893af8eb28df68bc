/- Own texts joined: NumW, NumX, NumY, NumZ. -/
import Derived.Test.YtedfcemebdlgfaaGreatDoorNumA
/-! Plain number theory: multiplicative functions; sums over the divisors. -/
namespace HP

theorem asc_lt : ∀ {b : Nat} {l : List (Nat × Nat)}, Asc b l → ∀ x ∈ l, b < x.1
  | _, [], _, x, h => by cases h
  | b, (p, e) :: l, ⟨h1, _, _, h4⟩, x, h => by
    rcases List.mem_cons.1 h with rfl | h
    · exact h1
    · have := asc_lt h4 x h; omega
theorem asc_nodup : ∀ {b : Nat} {l : List (Nat × Nat)}, Asc b l → l.Nodup
  | _, [], _ => List.nodup_nil
  | b, (p, e) :: l, ⟨_, _, _, h4⟩ => List.nodup_cons.2 ⟨fun h => by have := asc_lt h4 _ h; simp at this, asc_nodup h4⟩
theorem dvd_pow_one {p e : Nat} (he : 1 ≤ e) : p ∣ p ^ e := by
  have := Nat.pow_dvd_pow p he
  rwa [Nat.pow_one] at this
theorem facs_iff {N : Nat} (hN : 0 < N) (p e : Nat) : (p, e) ∈ facs N ↔ Prm p ∧ 1 ≤ e ∧ p ^ e ∣ N ∧ ¬ p ^ (e + 1) ∣ N := by
  constructor
  · intro h
    exact ⟨(facs_mem hN _ h).1, (facs_mem hN _ h).2.1, facs_pow_dvd hN _ h, facs_not hN _ h⟩
  · rintro ⟨hp, he, hd, hn⟩
    have h1 : p ∣ natL (facs N) := by
      rw [natL_facs N hN]
      exact Nat.dvd_trans (dvd_pow_one he) hd
    obtain ⟨⟨q, k⟩, hx, rfl⟩ := natL_prime hp (fun x hx => (facs_mem hN x hx).1) h1
    have h2 := facs_pow_dvd hN _ hx
    have h3 := facs_not hN _ hx
    have : k = e := by
      rcases Nat.lt_trichotomy k e with h | h | h
      · exact absurd (Nat.dvd_trans (Nat.pow_dvd_pow q h) hd) h3
      · exact h
      · exact absurd (Nat.dvd_trans (Nat.pow_dvd_pow q h) h2) hn
    subst this; exact hx
theorem pow_dvd_left {p e m n : Nat} (hp : Prm p) (hn : ¬ p ∣ n) : p ^ e ∣ m * n ↔ p ^ e ∣ m :=
  ⟨fun h => (Nat.Coprime.pow_left e (hp.coprime hn)).dvd_of_dvd_mul_right h, fun h => Nat.dvd_trans h ⟨n, rfl⟩⟩
theorem not_both {p m n : Nat} (hp : Prm p) (hc : Nat.Coprime m n) (h1 : p ∣ m) (h2 : p ∣ n) : False :=
  hp.not_dvd_one (by have := Nat.dvd_gcd h1 h2; rwa [hc] at this)
theorem facs_mul {m n : Nat} (hm : 0 < m) (hn : 0 < n) (hc : Nat.Coprime m n) : (facs (m * n)).Perm (facs m ++ facs n) := by
  refine (List.perm_ext_iff_of_nodup (asc_nodup (facs_asc1 _ (Nat.mul_pos hm hn))) ?_).2 ?_
  · refine List.nodup_append.2 ⟨asc_nodup (facs_asc1 _ hm), asc_nodup (facs_asc1 _ hn), ?_⟩
    rintro ⟨p, e⟩ hx ⟨q, k⟩ hy h
    cases h
    exact not_both (facs_mem hm _ hx).1 hc (facs_mem hm _ hx).2.2 (facs_mem hn _ hy).2.2
  · rintro ⟨p, e⟩
    rw [List.mem_append, facs_iff (Nat.mul_pos hm hn), facs_iff hm, facs_iff hn]
    constructor
    · rintro ⟨hp, he, h1, h2⟩
      by_cases hpn : p ∣ n
      · have hpm : ¬ p ∣ m := fun h => not_both hp hc h hpn
        rw [Nat.mul_comm, pow_dvd_left hp hpm] at h1 h2
        exact .inr ⟨hp, he, h1, h2⟩
      · rw [pow_dvd_left hp hpn] at h1 h2
        exact .inl ⟨hp, he, h1, h2⟩
    · rintro (⟨hp, he, h1, h2⟩ | ⟨hp, he, h1, h2⟩)
      · have hpn : ¬ p ∣ n := fun h => not_both hp hc (Nat.dvd_trans (dvd_pow_one he) h1) h
        rw [pow_dvd_left hp hpn, pow_dvd_left hp hpn]
        exact ⟨hp, he, h1, h2⟩
      · have hpm : ¬ p ∣ m := fun h => not_both hp hc h (Nat.dvd_trans (dvd_pow_one he) h1)
        rw [Nat.mul_comm, pow_dvd_left hp hpm, pow_dvd_left hp hpm]
        exact ⟨hp, he, h1, h2⟩
theorem prodL_perm (f : Nat → Nat → Int) {l m : List (Nat × Nat)} (h : l.Perm m) : prodL f l = prodL f m := by
  induction h with
  | nil => rfl
  | cons x _ ih => obtain ⟨p, e⟩ := x; show f p e * _ = f p e * _; rw [ih]
  | swap x y l =>
    obtain ⟨p, e⟩ := x; obtain ⟨q, k⟩ := y
    show f q k * (f p e * prodL f l) = f p e * (f q k * prodL f l)
    rw [← Int.mul_assoc, ← Int.mul_assoc, Int.mul_comm (f q k)]
  | trans _ _ a b => rw [a, b]
theorem prodL_coprime (f : Nat → Nat → Int) {m n : Nat} (hm : 0 < m) (hn : 0 < n) (hc : Nat.Coprime m n) : prodL f (facs (m * n)) = prodL f (facs m) * prodL f (facs n) := by
  rw [prodL_perm f (facs_mul hm hn hc), prodL_append]

/-- a sum over a list -/
def sumG (G : Nat → Int) : List Nat → Int
  | [] => 0
  | d :: l => G d + sumG G l
theorem sumG_append (G : Nat → Int) : ∀ l m, sumG G (l ++ m) = sumG G l + sumG G m
  | [], m => by simp [sumG]
  | d :: l, m => by rw [List.cons_append, sumG, sumG, sumG_append G l m, Int.add_assoc]
theorem sumG_next (G : Nat → Int) {l : List Nat} {i d : Nat} (h : l[i]? = some d) : sumG G (l.take (i + 1)) = sumG G (l.take i) + G d := by
  rw [List.take_add_one, h, sumG_append]
  simp [sumG]
theorem sumG_perm (G : Nat → Int) {l m : List Nat} (h : l.Perm m) : sumG G l = sumG G m := by
  induction h with
  | nil => rfl
  | cons x _ ih => show G x + _ = G x + _; rw [ih]
  | swap x y l => show G y + (G x + sumG G l) = G x + (G y + sumG G l); omega
  | trans _ _ a b => rw [a, b]
/-- the sum of G over 1, p, .., p^e -/
def geoS (G : Nat → Int) (p : Nat) : Nat → Int
  | 0 => G 1
  | e + 1 => geoS G p e + G (p ^ (e + 1))
/-- a multiplicative function -/
def Mult (G : Nat → Int) : Prop := G 1 = 1 ∧ ∀ a b, 0 < a → 0 < b → Nat.Coprime a b → G (a * b) = G a * G b
theorem sumG_map {G : Nat → Int} (hG : Mult G) {q m : Nat} (hq : 0 < q) (hm : 0 < m) (hc : Nat.Coprime m q) : ∀ L : List Nat, (∀ x ∈ L, x ∣ m) → sumG G (L.map (· * q)) = sumG G L * G q
  | [], _ => by simp [sumG]
  | y :: L, h => by
    have hy := h y (List.mem_cons_self ..)
    show G (y * q) + sumG G (L.map (· * q)) = (G y + sumG G L) * G q
    rw [sumG_map hG hq hm hc L (fun x hx => h x (List.mem_cons_of_mem _ hx)), hG.2 y q (Nat.pos_of_dvd_of_pos hy hm) hq (Nat.Coprime.coprime_dvd_left hy hc), Int.add_mul]
theorem dvE_sum {G : Nat → Int} (hG : Mult G) {p m : Nat} (hp : Prm p) (hm : 0 < m) (hpm : ¬ p ∣ m) {L : List Nat} (hL : ∀ x ∈ L, x ∣ m) : ∀ e, sumG G (dvE p L e) = sumG G L * geoS G p e
  | 0 => by rw [dvE, geoS, hG.1, Int.mul_one]
  | e + 1 => by
    rw [dvE, sumG_append, dvE_sum hG hp hm hpm hL e, sumG_map hG (Nat.pow_pos hp.pos) hm (Nat.Coprime.pow_left _ (hp.coprime hpm)).symm L hL, geoS, Int.mul_add]
theorem dvF_sum {G : Nat → Int} (hG : Mult G) {N : Nat} (hN : 0 < N) : ∀ (r l : List (Nat × Nat)) (L : List Nat), facs N = l ++ r → (∀ x ∈ L, x ∣ natL l) → sumG G (dvF L r) = sumG G L * prodL (geoS G) r
  | [], _, L, _, _ => by rw [dvF, prodL, Int.mul_one]
  | (p, e) :: r, l, L, hl, hL => by
    have hmem : (p, e) ∈ facs N := by rw [hl]; simp
    have hp : Prm p := (facs_mem hN _ hmem).1
    have hnot := facs_not hN _ hmem
    have hNe : N = natL l * (p ^ e * natL r) := by rw [← natL_facs N hN, hl, natL_append]; rfl
    have hlp : 0 < natL l := Nat.pos_of_ne_zero fun h => by rw [h, Nat.zero_mul] at hNe; omega
    have hpl : ¬ p ∣ natL l := fun h => hnot (by
      rw [hNe]
      have h1 : p * p ^ e ∣ natL l * p ^ e := Nat.mul_dvd_mul_right h _
      rw [show natL l * (p ^ e * natL r) = natL l * p ^ e * natL r by grind, show p ^ (e + 1) = p * p ^ e by rw [Nat.pow_succ, Nat.mul_comm]]
      exact Nat.dvd_trans h1 ⟨natL r, rfl⟩)
    have e1 : natL (l ++ [(p, e)]) = natL l * p ^ e := by
      rw [natL_append]
      show natL l * (p ^ e * 1) = _
      rw [Nat.mul_one]
    have ih := dvF_sum hG hN r (l ++ [(p, e)]) (dvE p L e) (by rw [hl, List.append_assoc]; rfl) (fun x hx => by
      obtain ⟨j, hj, y, hy, rfl⟩ := (dvE_mem e).1 hx
      rw [e1]
      exact Nat.mul_dvd_mul (hL y hy) (Nat.pow_dvd_pow p hj))
    rw [dvF, ih, dvE_sum hG hp hlp hpl hL e, prodL, Int.mul_assoc]
theorem dvs_nodup (N : Nat) : (dvs N).Nodup := (dvs_sorted N).imp fun h => Nat.ne_of_lt h
theorem dvs_perm {N : Nat} (hN : 0 < N) : (dvs N).Perm (dvF [1] (facs N)) :=
  (List.perm_ext_iff_of_nodup (dvs_nodup N) (dvF_facs hN).2).2 fun x => by rw [dvs_mem hN, (dvF_facs hN).1]
theorem dvs_sum {G : Nat → Int} (hG : Mult G) {N : Nat} (hN : 0 < N) : sumG G (dvs N) = prodL (geoS G) (facs N) := by
  rw [sumG_perm G (dvs_perm hN), dvF_sum hG hN (facs N) [] [1] rfl (fun x hx => by rw [List.mem_singleton.1 hx]; exact Nat.dvd_refl _)]
  show (G 1 + 0) * _ = _
  rw [hG.1, Int.add_zero, Int.one_mul]
theorem facs_pow {p e : Nat} (hp : Prm p) (he : 0 < e) : facs (p ^ e) = [(p, e)] := by
  have := facs_of (b := 1) [(p, e)] ⟨hp.1, hp, he, trivial⟩
  rwa [show natL [(p, e)] = p ^ e from Nat.mul_one _] at this
theorem mult_prodL (f : Nat → Nat → Int) : Mult (fun n => prodL f (facs n)) :=
  ⟨by show prodL f (facs 1) = 1; rw [facs_small (Nat.le_refl 1)]; rfl, fun _ _ ha hb hc => prodL_coprime f ha hb hc⟩
theorem geo_phi {p : Nat} (hp : Prm p) : ∀ e, geoS phi p e = (p : Int) ^ e
  | 0 => (mult_prodL phiF).1
  | e + 1 => by
    have h : phi (p ^ (e + 1)) = phiF p (e + 1) := by
      show prodL phiF (facs (p ^ (e + 1))) = _
      rw [facs_pow hp (by omega)]
      show phiF p (e + 1) * 1 = _
      rw [Int.mul_one]
    rw [geoS, geo_phi hp e, h, phiF_eq hp.pos]
    rw [Nat.add_sub_cancel, Int.natCast_pow, Int.pow_succ, Int.mul_sub, Int.mul_one]
    omega
theorem sum_phi {N : Nat} (hN : 0 < N) : sumG phi (dvs N) = N := by
  have h := dvs_sum (mult_prodL phiF) hN
  rw [show sumG phi (dvs N) = _ from h, ← prod_facs N hN]
  exact prodL_congr _ fun x hx => geo_phi (facs_mem hN x hx).1 x.2
theorem geo_mob {p : Nat} (hp : Prm p) : ∀ e, 1 ≤ e → geoS mob p e = 0
  | 0, h => absurd h (by omega)
  | e + 1, _ => by
    have h : mob (p ^ (e + 1)) = mobF p (e + 1) := by
      show prodL mobF (facs (p ^ (e + 1))) = _
      rw [facs_pow hp (by omega)]
      show mobF p (e + 1) * 1 = _
      rw [Int.mul_one]
    rw [geoS, h]
    by_cases h0 : e = 0
    · subst h0
      rw [geoS, show mob 1 = 1 from (mult_prodL mobF).1]
      rfl
    · rw [geo_mob hp e (by omega)]
      unfold mobF
      rw [if_pos (by omega)]
      rfl
theorem sum_mob {N : Nat} (hN : 0 < N) : sumG mob (dvs N) = if N = 1 then 1 else 0 := by
  have h := dvs_sum (mult_prodL mobF) hN
  rw [show sumG mob (dvs N) = _ from h]
  split
  · next h => subst h; rw [facs_small (Nat.le_refl 1)]; rfl
  · next h =>
    have hm := facs_mem hN
    rw [facs_big (by omega)] at hm ⊢
    have h1 := hm _ (List.mem_cons_self ..)
    have h2 : geoS (fun n => prodL mobF (facs n)) (lpf N) (mlt (lpf N) N) = 0 := geo_mob h1.1 _ h1.2.1
    rw [prodL, h2, Int.zero_mul]
theorem phi_coprime {m n : Nat} (hm : 0 < m) (hn : 0 < n) (hc : Nat.Coprime m n) : phi (m * n) = phi m * phi n := prodL_coprime phiF hm hn hc
theorem psi_coprime {m n : Nat} (hm : 0 < m) (hn : 0 < n) (hc : Nat.Coprime m n) : psi (m * n) = psi m * psi n := prodL_coprime psiF hm hn hc
theorem mult_pow (k : Nat) : Mult (fun d => (d : Int) ^ k) :=
  ⟨Int.one_pow, fun a b _ _ _ => by simp [Int.mul_pow]⟩
theorem sigma_coprime (k : Nat) {m n : Nat} (hm : 0 < m) (hn : 0 < n) (hc : Nat.Coprime m n) : sumG (fun d => (d : Int) ^ k) (dvs (m * n)) = sumG (fun d => (d : Int) ^ k) (dvs m) * sumG (fun d => (d : Int) ^ k) (dvs n) := by
  rw [dvs_sum (mult_pow k) (Nat.mul_pos hm hn), dvs_sum (mult_pow k) hm, dvs_sum (mult_pow k) hn, prodL_coprime _ hm hn hc]
theorem sumG_bd {G : Nat → Int} {B : Int} (hB : 0 ≤ B) (h : ∀ d, -B ≤ G d ∧ G d ≤ B) : ∀ l : List Nat, -(B * l.length) ≤ sumG G l ∧ sumG G l ≤ B * l.length
  | [] => by simp [sumG]
  | d :: l => by
    have h1 := h d
    have h2 := sumG_bd hB h l
    rw [sumG, List.length_cons, Int.natCast_add, Int.mul_add]
    simp only [Int.natCast_one, Int.mul_one]
    omega
end HP

/-! Plain number theory: products over the primes up to a bound, taken one number at a time; the lists of the dimension formulas. -/
namespace HP

/-- how many of the list's primes are below k -/
def ixL (k : Nat) : List (Nat × Nat) → Nat
  | [] => 0
  | (p, _) :: l => if p < k then ixL k l + 1 else 0
theorem ixL_low {k : Nat} : ∀ {l : List (Nat × Nat)}, (∀ x ∈ l, k ≤ x.1) → ixL k l = 0
  | [], _ => rfl
  | (p, e) :: l, h => by
    have := h _ (List.mem_cons_self ..)
    rw [ixL, if_neg (by simp at this; omega)]
theorem ixL_high {k : Nat} : ∀ {l : List (Nat × Nat)}, (∀ x ∈ l, x.1 < k) → ixL k l = l.length
  | [], _ => rfl
  | (p, e) :: l, h => by
    have := h _ (List.mem_cons_self ..)
    rw [ixL, if_pos (by simpa using this), ixL_high fun x hx => h x (List.mem_cons_of_mem _ hx)]; rfl
theorem ixL_yes {k e : Nat} : ∀ {b : Nat} {l : List (Nat × Nat)}, Asc b l → (k, e) ∈ l → l[ixL k l]? = some (k, e) ∧ ixL (k + 1) l = ixL k l + 1
  | _, [], _, h => by cases h
  | b, (p, f) :: l, ⟨h1, h2, h3, h4⟩, h => by
    rcases List.mem_cons.1 h with h | h
    · cases h
      have hlow : ixL (k + 1) l = 0 := ixL_low fun x hx => by have := asc_lt h4 x hx; omega
      rw [ixL, if_neg (by omega), ixL, if_pos (by omega), hlow]
      exact ⟨rfl, rfl⟩
    · have hlt : p < k := asc_lt h4 _ h
      obtain ⟨i1, i2⟩ := ixL_yes h4 h
      rw [ixL, if_pos hlt, ixL, if_pos (by omega), i2]
      exact ⟨i1, rfl⟩
theorem ixL_no {k : Nat} : ∀ {b : Nat} {l : List (Nat × Nat)}, Asc b l → (∀ e, (k, e) ∉ l) → ixL (k + 1) l = ixL k l
  | _, [], _, _ => rfl
  | b, (p, f) :: l, ⟨h1, h2, h3, h4⟩, h => by
    have hne : p ≠ k := fun hp => h f (by rw [hp]; exact List.mem_cons_self ..)
    by_cases hlt : p < k
    · rw [ixL, if_pos (by omega), ixL, if_pos hlt, ixL_no h4 fun e he => h e (List.mem_cons_of_mem _ he)]
    · rw [ixL, if_neg (by omega), ixL, if_neg hlt]
theorem mlt_of {p e n : Nat} (hp : 2 ≤ p) (hn : 0 < n) (h1 : p ^ e ∣ n) (h2 : ¬ p ^ (e + 1) ∣ n) : mlt p n = e := by
  obtain ⟨m, rfl⟩ := h1
  have hm : ¬ p ∣ m := fun h => h2 (by rw [Nat.pow_succ]; exact Nat.mul_dvd_mul_left _ h)
  exact (mlt_pow_mul hp (Nat.pos_of_ne_zero fun h => by rw [h, Nat.mul_zero] at hn; omega) hm e).1
theorem mem_mlt {n p : Nat} (hn : 0 < n) (hp : Prm p) (hd : p ∣ n) : (p, mlt p n) ∈ facs n := by
  obtain ⟨⟨q, k⟩, hx, rfl⟩ := natL_prime hp (fun x hx => (facs_mem hn x hx).1) (show p ∣ natL (facs n) by rw [natL_facs n hn]; exact hd)
  have h := (facs_iff hn q k).1 hx
  rw [mlt_of hp.1 hn h.2.2.1 h.2.2.2]
  exact hx
theorem facs_e {n p e : Nat} (hn : 0 < n) (h : (p, e) ∈ facs n) : e = mlt p n := by
  have h := (facs_iff hn p e).1 h
  exact (mlt_of h.1.1 hn h.2.2.1 h.2.2.2).symm
/-- the number of primes of n below k -/
def ixN (n k : Nat) : Nat := ixL k (facs n)
theorem ixN_two {n : Nat} (hn : 0 < n) : ixN n 2 = 0 := ixL_low fun x hx => (facs_mem hn x hx).1.1
theorem ixN_end {n k : Nat} (hn : 0 < n) (hk : n < k) : ixN n k = (facs n).length := ixL_high fun x hx => by
  have := Nat.le_of_dvd hn (facs_mem hn x hx).2.2
  omega
theorem ixN_yes {n k : Nat} (hn : 0 < n) (hp : Prm k) (hd : k ∣ n) : (facs n)[ixN n k]? = some (k, mlt k n) ∧ ixN n (k + 1) = ixN n k + 1 :=
  ixL_yes (facs_asc1 n hn) (mem_mlt hn hp hd)
theorem ixN_no {n k : Nat} (hn : 0 < n) (h : ¬ (Prm k ∧ k ∣ n)) : ixN n (k + 1) = ixN n k :=
  ixL_no (facs_asc1 n hn) fun _ he => h ⟨(facs_mem hn _ he).1, (facs_mem hn _ he).2.2⟩
theorem ixN_le {n : Nat} (k : Nat) : ixN n k ≤ (facs n).length := by
  unfold ixN
  generalize facs n = l
  induction l with
  | nil => exact Nat.le_refl _
  | cons x l ih =>
    obtain ⟨p, e⟩ := x
    rw [ixL]
    split
    · simp; omega
    · omega
/-- a product over the primes below k -/
def parN (f : Nat → Nat → Int) (n k : Nat) : Int := prodL f ((facs n).take (ixN n k))
theorem parN_two (f) {n : Nat} (hn : 0 < n) : parN f n 2 = 1 := by unfold parN; rw [ixN_two hn]; rfl
theorem parN_end (f) {n k : Nat} (hn : 0 < n) (hk : n < k) : parN f n k = prodL f (facs n) := by unfold parN; rw [ixN_end hn hk, List.take_length]
theorem parN_yes (f) {n k : Nat} (hn : 0 < n) (hp : Prm k) (hd : k ∣ n) : parN f n (k + 1) = parN f n k * f k (mlt k n) := by
  obtain ⟨h1, h2⟩ := ixN_yes hn hp hd
  unfold parN
  rw [h2, prodL_next f h1]
theorem parN_no (f) {n k : Nat} (hn : 0 < n) (h : ¬ (Prm k ∧ k ∣ n)) : parN f n (k + 1) = parN f n k := by unfold parN; rw [ixN_no hn h]
/-- the same where the rest of n stands beside it -/
def stpN (f : Nat → Nat → Int) (n k : Nat) : Int := stepN f (facs n) (ixN n k)
theorem stpN_two (f) {n : Nat} (hn : 0 < n) : stpN f n 2 = n := by unfold stpN; rw [ixN_two hn, stepN_zero, natL_facs n hn]
theorem stpN_end (f) {n k : Nat} (hn : 0 < n) (hk : n < k) : stpN f n k = prodL f (facs n) := by unfold stpN; rw [ixN_end hn hk, stepN_end]
theorem stpN_no (f) {n k : Nat} (hn : 0 < n) (h : ¬ (Prm k ∧ k ∣ n)) : stpN f n (k + 1) = stpN f n k := by unfold stpN; rw [ixN_no hn h]

/-- the factor of lambda at p^e; c: the exponent in the conductor -/
def lamF (f p e : Nat) : Int := if e < 2 * mlt p f then ((2 * p ^ (e - mlt p f) : Nat) : Int) else if e % 2 = 0 then ((p ^ (e / 2) + p ^ (e / 2 - 1) : Nat) : Int) else ((2 * p ^ ((e - 1) / 2) : Nat) : Int)
def lam (f n : Nat) : Int := prodL (lamF f) (facs n)
theorem lamF_bd {f p e : Nat} (hp : 2 ≤ p) (he : 1 ≤ e) : 1 ≤ lamF f p e ∧ lamF f p e ≤ 2 * pwF p e := by
  have hpos : ∀ k, 1 ≤ p ^ k := fun k => Nat.pow_pos (by omega)
  have hle : ∀ k, k ≤ e → p ^ k ≤ p ^ e := fun k hk => Nat.pow_le_pow_right (by omega) hk
  have e0 : pwF p e = ((p ^ e : Nat) : Int) := by unfold pwF; rw [Int.natCast_pow]
  rw [e0]
  unfold lamF
  split
  · have a := hpos (e - mlt p f)
    have b := hle (e - mlt p f) (by omega)
    omega
  · split
    · have a := hpos (e / 2)
      have b := hle (e / 2) (by omega)
      have c := hle (e / 2 - 1) (by omega)
      omega
    · have a := hpos ((e - 1) / 2)
      have b := hle ((e - 1) / 2) (by omega)
      omega
theorem prodL_le' {f g : Nat → Nat → Int} : ∀ l : List (Nat × Nat), (∀ x ∈ l, 1 ≤ f x.1 x.2 ∧ f x.1 x.2 ≤ g x.1 x.2) → 1 ≤ prodL f l ∧ prodL f l ≤ prodL g l
  | [], _ => ⟨Int.le_refl _, Int.le_refl _⟩
  | (p, e) :: l, h => by
    obtain ⟨a, b⟩ := h _ (List.mem_cons_self ..)
    obtain ⟨c, d⟩ := prodL_le' l fun x hx => h x (List.mem_cons_of_mem _ hx)
    have e1 : 1 * 1 ≤ f p e * prodL f l := Int.mul_le_mul a c (by omega) (by simp at a; omega)
    have e2 : f p e * prodL f l ≤ g p e * prodL g l := Int.mul_le_mul b d (by omega) (by simp at a b; omega)
    rw [Int.mul_one] at e1
    exact ⟨e1, e2⟩
theorem two_pw {p e : Nat} (hp : 2 ≤ p) (he : 1 ≤ e) : 2 * pwF p e ≤ pwF p e * pwF p e := by
  have h1 : p ^ 1 ≤ p ^ e := Nat.pow_le_pow_right (by omega) he
  have e0 : pwF p e = ((p ^ e : Nat) : Int) := by unfold pwF; rw [Int.natCast_pow]
  rw [e0]
  rw [Nat.pow_one] at h1
  have h2 : 2 * p ^ e ≤ p ^ e * p ^ e := Nat.mul_le_mul_right _ (Nat.le_trans hp h1)
  exact_mod_cast h2
theorem lam_pre (f : Nat) {n : Nat} (hn : 0 < n) (i : Nat) : 1 ≤ prodL (lamF f) ((facs n).take i) ∧ prodL (lamF f) ((facs n).take i) ≤ (n : Int) * n := by
  have hx : facs n = (facs n).take i ++ (facs n).drop i := (List.take_append_drop i _).symm
  have hm : ∀ x ∈ (facs n).take i, 2 ≤ x.1 ∧ 1 ≤ x.2 := fun x h => by
    have h1 : (x.1, x.2) ∈ facs n := List.mem_of_mem_take h
    have := facs_bounds hn h1
    exact ⟨this.2.1, this.2.2.1⟩
  obtain ⟨a, b⟩ := prodL_le' (f := lamF f) (g := fun p e => pwF p e * pwF p e) _ fun x h => ⟨(lamF_bd (f := f) (hm x h).1 (hm x h).2).1, Int.le_trans (lamF_bd (hm x h).1 (hm x h).2).2 (two_pw (hm x h).1 (hm x h).2)⟩
  rw [prodL_mul] at b
  obtain ⟨c, d⟩ := prefix_pw hn hx
  have : prodL pwF ((facs n).take i) * prodL pwF ((facs n).take i) ≤ (n : Int) * n := Int.mul_le_mul d d (by omega) (by omega)
  exact ⟨a, by omega⟩
theorem lam_bd (f : Nat) {n : Nat} (hn : 0 < n) : 1 ≤ lam f n ∧ lam f n ≤ (n : Int) * n := by
  have := lam_pre f hn (facs n).length
  rw [List.take_length] at this
  exact this
/-- the factor of beta -/
def betF (_ e : Nat) : Int := if e = 1 then -2 else if e = 2 then 1 else 0
def bet (n : Nat) : Int := prodL betF (facs n)

/-- the sum of g over the a below m with c a solution -/
def rootS (n c : Nat) (g : Nat → Int) : Nat → Int
  | 0 => 0
  | a + 1 => rootS n c g a + if (a * a + c * a + 1) % n = 0 then g a else 0
theorem rootS_bd {n c : Nat} {g : Nat → Int} {B : Int} (hB : 0 ≤ B) (hg : ∀ a, -B ≤ g a ∧ g a ≤ B) : ∀ m : Nat, -(B * m) ≤ rootS n c g m ∧ rootS n c g m ≤ B * m
  | 0 => by simp [rootS]
  | m + 1 => by
    have h1 := hg m
    have h2 := rootS_bd (n := n) (c := c) hB hg m
    rw [rootS, Int.natCast_add, Int.mul_add]
    simp only [Int.natCast_one, Int.mul_one]
    split <;> omega
/-- the sum from 1 to m -/
def rootR (n c : Nat) (g : Nat → Int) : Nat → Int
  | 0 => 0
  | a + 1 => rootR n c g a + if ((a + 1) * (a + 1) + c * (a + 1) + 1) % n = 0 then g (a + 1) else 0
theorem rootS_shift {n c : Nat} (g h : Nat → Int) (h0 : ∀ a, 0 < a → g a = h a) : ∀ m, rootS n c g (m + 1) = (if (0 * 0 + c * 0 + 1) % n = 0 then g 0 else 0) + rootR n c h m
  | 0 => by simp [rootS, rootR]
  | m + 1 => by rw [rootS, rootS_shift g h h0 m, rootR, h0 (m + 1) (by omega), Int.add_assoc]
theorem rootS_rootR {n c : Nat} (hn : 0 < n) (g h : Nat → Int) (h0 : ∀ a, 0 < a → g a = h a) (h1 : g 0 = h n) : rootS n c g n = rootR n c h n := by
  obtain ⟨m, rfl⟩ : ∃ m, n = m + 1 := ⟨n - 1, by omega⟩
  rw [rootS_shift g h h0 m, rootR, h1, Int.add_comm]
  congr 1
  have e : ((m + 1) * (m + 1) + c * (m + 1) + 1) % (m + 1) = (0 * 0 + c * 0 + 1) % (m + 1) := by
    rw [show (m + 1) * (m + 1) + c * (m + 1) + 1 = 1 + (m + 1 + c) * (m + 1) by grind, Nat.add_mul_mod_self_right]
    simp
  rw [e]

/-- the dimension of the cusp forms, times 12 -/
def dim12 (n k f : Nat) (four three : Int) : Int :=
  ((k : Int) - 1) * psi n - 6 * lam f n + (if k = 2 ∧ f = 1 then 12 else 0) + (if k % 4 = 0 then 3 * four else if k % 4 = 2 then -(3 * four) else 0) + (if k % 3 = 0 then 2 * three else if k % 3 = 2 then -(2 * three) else 0)
def cuspV (n k : Nat) (D : Int) : Int :=
  (dim12 n k D.natAbs (rootR n 0 (fun a => jac D a) n) (rootR n 1 (fun a => 2 * jac D a) n)).tdiv 12
theorem psiN_bd {N : Nat} (hN : 0 < N) (i : Nat) : 0 ≤ stepN psiF (facs N) i ∧ stepN psiF (facs N) i ≤ (N : Int) * N := by
  have h := (List.take_append_drop i (facs N)).symm
  have hle := prodL_le (f := psiF) (g := fun p e => pwF p e * pwF p e) ((facs N).take i) (fun x hx => by
    obtain ⟨p, e⟩ := x
    obtain ⟨a, b, c, _⟩ := facs_bounds hN (mem_prefix h hx)
    exact psiF_le b c)
  rw [prodL_mul] at hle
  have e : prodL pwF ((facs N).take i) * natL ((facs N).drop i) = N := by
    rw [natL_pw, ← Int.natCast_mul, ← natL_append, ← h, natL_facs N hN]
  have hp := (prefix_pw hN h).1
  have hd : (1 : Int) ≤ natL ((facs N).drop i) := by
    have : natL ((facs N).drop i) ≠ 0 := fun h0 => by rw [h0] at e; simp at e; omega
    omega
  unfold stepN
  refine ⟨Int.mul_nonneg hle.1 (by omega), ?_⟩
  have h1 := Int.mul_le_mul_of_nonneg_right hle.2 (show (0 : Int) ≤ natL ((facs N).drop i) by omega)
  have h2 : prodL pwF ((facs N).take i) * prodL pwF ((facs N).take i) * natL ((facs N).drop i) ≤ (N : Int) * N := by
    rw [Int.mul_assoc, e]
    have h3 : prodL pwF ((facs N).take i) * 1 ≤ prodL pwF ((facs N).take i) * natL ((facs N).drop i) := Int.mul_le_mul_of_nonneg_left hd (by omega)
    rw [e, Int.mul_one] at h3
    exact Int.mul_le_mul_of_nonneg_right h3 (by omega)
  exact Int.le_trans h1 h2

end HP

/-! Plain: the factorizations of the numbers up to 120, reckoned by the kernel. -/
namespace HP

def prmC (p : Nat) : Bool := decide (2 ≤ p) && (List.range (p - 2)).all fun d => !(p % (d + 2) == 0)
theorem prmC_prm {p : Nat} (h : prmC p = true) : Prm p := by
  unfold prmC at h
  rw [Bool.and_eq_true, decide_eq_true_iff, List.all_eq_true] at h
  obtain ⟨h1, h2⟩ := h
  refine ⟨h1, fun d hd => ?_⟩
  have hle := Nat.le_of_dvd (by omega) hd
  rcases Nat.lt_trichotomy d 1 with h | h | h
  · have : d = 0 := by omega
    subst this
    have := Nat.eq_zero_of_zero_dvd hd
    omega
  · exact .inl h
  · right
    apply Nat.le_antisymm hle
    apply Nat.le_of_not_lt
    intro hlt
    have := h2 (d - 2) (List.mem_range.2 (by omega))
    rw [show d - 2 + 2 = d by omega, Nat.mod_eq_zero_of_dvd hd] at this
    simp at this
theorem prm_prmC {p : Nat} (h : Prm p) : prmC p = true := by
  unfold prmC
  rw [Bool.and_eq_true, decide_eq_true_iff, List.all_eq_true]
  refine ⟨h.1, fun d hd => ?_⟩
  have hd := List.mem_range.1 hd
  have : ¬ p % (d + 2) = 0 := fun h0 => by
    rcases h.2 _ (Nat.dvd_of_mod_eq_zero h0) with h1 | h1 <;> omega
  simpa using this
theorem prmC_iff {p : Nat} : prmC p = true ↔ Prm p := ⟨prmC_prm, prm_prmC⟩
def mltC (p : Nat) : Nat → Nat → Nat
  | 0, _ => 0
  | f + 1, n => if n % p = 0 then mltC p f (n / p) + 1 else 0
theorem mltC_eq {p : Nat} (hp : 2 ≤ p) : ∀ (f n : Nat), 0 < n → n ≤ f → mltC p f n = mlt p n
  | 0, n, h0, h => absurd h (by omega)
  | f + 1, n, h0, h => by
    rw [mltC]
    split
    · next hm =>
      have hd : 0 < n / p := Nat.div_pos (Nat.le_of_dvd h0 (Nat.dvd_of_mod_eq_zero hm)) (by omega)
      have hl : n / p < n := Nat.div_lt_self h0 (by omega)
      rw [mltC_eq hp f _ hd (by omega), mlt_yes hp h0 hm, Nat.add_comm]
    · next hm => rw [mlt_no hm]
def facA : Nat → Nat → Nat → List (Nat × Nat)
  | 0, _, _ => []
  | f + 1, p, n => if n < 2 then [] else if n % p = 0 then (p, mltC p 7 n) :: facA f (p + 1) (n / p ^ mltC p 7 n) else facA f (p + 1) n
def facC (n : Nat) : List (Nat × Nat) := facA n 2 n
def ascC : Nat → List (Nat × Nat) → Bool
  | _, [] => true
  | b, (p, e) :: l => decide (b < p) && prmC p && decide (0 < e) && ascC p l
theorem ascC_asc : ∀ {b : Nat} {l : List (Nat × Nat)}, ascC b l = true → Asc b l
  | _, [], _ => trivial
  | b, (p, e) :: l, h => by
    unfold ascC at h
    rw [Bool.and_eq_true, Bool.and_eq_true, Bool.and_eq_true, decide_eq_true_iff, decide_eq_true_iff] at h
    exact ⟨h.1.1.1, prmC_prm h.1.1.2, h.1.2, ascC_asc h.2⟩
/-- a fact for all numbers below n, to be reckoned -/
def allB (n : Nat) (f : Nat → Bool) : Bool := (List.range n).all f
theorem allB_at {n : Nat} {f : Nat → Bool} (h : allB n f = true) {i : Nat} (hi : i < n) : f i = true := by
  unfold allB at h
  rw [List.all_eq_true] at h
  exact h i (List.mem_range.2 hi)
theorem fac_all : allB 121 (fun n => decide (n = 0) || (ascC 1 (facC n) && (natL (facC n) == n))) = true := by decide +kernel
theorem facs_C {n : Nat} (h1 : 1 ≤ n) (h2 : n ≤ 120) : facs n = facC n := by
  have h := allB_at fac_all (show n < 121 by omega)
  rw [Bool.or_eq_true, decide_eq_true_iff, Bool.and_eq_true, beq_iff_eq] at h
  rcases h with h | ⟨ha, hb⟩
  · omega
  · have := facs_of _ (ascC_asc ha)
    rwa [hb] at this
def prodC (f : Nat → Nat → Int) (n : Nat) : Int := prodL f (facC n)
theorem psi_C {n : Nat} (h1 : 1 ≤ n) (h2 : n ≤ 120) : psi n = prodC psiF n := by unfold psi prodC; rw [facs_C h1 h2]
theorem phi_C {n : Nat} (h1 : 1 ≤ n) (h2 : n ≤ 120) : phi n = prodC phiF n := by unfold phi prodC; rw [facs_C h1 h2]
theorem bet_C {n : Nat} (h1 : 1 ≤ n) (h2 : n ≤ 120) : bet n = prodC betF n := by unfold bet prodC; rw [facs_C h1 h2]
/-- the factor of lambda with the exponent reckoned -/
def lamG (f p e : Nat) : Int := if e < 2 * mltC p f f then ((2 * p ^ (e - mltC p f f) : Nat) : Int) else if e % 2 = 0 then ((p ^ (e / 2) + p ^ (e / 2 - 1) : Nat) : Int) else ((2 * p ^ ((e - 1) / 2) : Nat) : Int)
theorem lam_C {f n : Nat} (hf : 0 < f) (h1 : 1 ≤ n) (h2 : n ≤ 120) : lam f n = prodC (lamG f) n := by
  unfold lam prodC
  rw [← facs_C h1 h2]
  refine prodL_congr _ fun x hx => ?_
  have := (facs_mem (by omega) x hx).1.1
  unfold lamG lamF
  rw [mltC_eq this f f hf (Nat.le_refl _)]
end HP

/-! Plain: the sums over roots of the dimension formulas; the sum over the divisors. -/
namespace HP

theorem rootR_bd {n c : Nat} {g : Nat → Int} {B : Int} (hB : 0 ≤ B) (hg : ∀ a, 0 < a → -B ≤ g a ∧ g a ≤ B) : ∀ m : Nat, -(B * m) ≤ rootR n c g m ∧ rootR n c g m ≤ B * m
  | 0 => by simp [rootR]
  | m + 1 => by
    have h1 := hg (m + 1) (by omega)
    have h2 := rootR_bd (n := n) (c := c) hB hg m
    rw [rootR, Int.natCast_add, Int.mul_add]
    simp only [Int.natCast_one, Int.mul_one]
    split <;> omega
theorem root_gcd {a c n : Nat} (h : (a * a + c * a + 1) % n = 0) : Nat.gcd a n = 1 := by
  have h1 : Nat.gcd a n ∣ a * a + c * a + 1 := Nat.dvd_trans (Nat.gcd_dvd_right a n) (Nat.dvd_of_mod_eq_zero h)
  have h2 : Nat.gcd a n ∣ a * a + c * a := by
    rw [← Nat.add_mul]
    exact Nat.dvd_trans (Nat.gcd_dvd_left a n) (Nat.dvd_mul_left _ _)
  exact Nat.dvd_one.1 ((Nat.dvd_add_right h2).1 h1)
theorem kro_shift {D : Int} {a n : Nat} (h0 : D ≠ 0) (h4 : D % 4 = 0 ∨ D % 4 = 1) (hd : D.natAbs ∣ n) (ha : 0 < a) : kro D ((a : Int) + n) = jac D a := by
  obtain ⟨k, rfl⟩ := hd
  rw [kro_pos (by omega), show ((a : Int) + ((D.natAbs * k : Nat) : Int)).toNat = a + k * D.natAbs by rw [Nat.mul_comm]; omega]
  exact jac_period h0 h4 a k ha
theorem kro_zero_shift {D : Int} {n : Nat} (hn : 0 < n) : kro D (((0 : Nat) : Int) + n) = jac D n := by
  rw [kro_pos (by omega)]
  congr 1
  omega
theorem four_eq {D : Int} {n c : Nat} (h0 : D ≠ 0) (h4 : D % 4 = 0 ∨ D % 4 = 1) (hd : D.natAbs ∣ n) (hn : 0 < n) : rootS n c (fun a => kro D ((a : Int) + n)) n = rootR n c (fun a => jac D a) n :=
  rootS_rootR hn _ _ (fun _ ha => kro_shift h0 h4 hd ha) (kro_zero_shift hn)
theorem three_eq {D : Int} {n c : Nat} (h0 : D ≠ 0) (h4 : D % 4 = 0 ∨ D % 4 = 1) (hd : D.natAbs ∣ n) (hn : 0 < n) : rootS n c (fun a => 2 * kro D ((a : Int) + n)) n = rootR n c (fun a => 2 * jac D a) n :=
  rootS_rootR hn _ _ (fun _ ha => by rw [kro_shift h0 h4 hd ha]) (by rw [kro_zero_shift hn])
theorem jac_bd {D : Int} {a : Nat} (ha : 0 < a) : -1 ≤ jac D a ∧ jac D a ≤ 1 := by rcases jac_tri D a ha with h | h | h <;> omega
theorem four_bd (D : Int) (n c m : Nat) : -(m : Int) ≤ rootR n c (fun a => jac D a) m ∧ rootR n c (fun a => jac D a) m ≤ m := by
  have := rootR_bd (n := n) (c := c) (g := fun a => jac D a) (B := 1) (by omega) (fun a ha => jac_bd ha) m
  omega
theorem three_bd (D : Int) (n c m : Nat) : -(2 * m : Int) ≤ rootR n c (fun a => 2 * jac D a) m ∧ rootR n c (fun a => 2 * jac D a) m ≤ 2 * m := by
  have := rootR_bd (n := n) (c := c) (g := fun a => 2 * jac D a) (B := 2) (by omega) (fun a ha => by have := jac_bd (D := D) ha; omega) m
  omega
theorem bet_step {p n : Nat} (hp : 2 ≤ p) (hn : 0 < n) (hr : Rough p n) (hd : p ∣ n) : bet n = betF p (mlt p n) * bet (strip p n) := by
  unfold bet
  rw [(facs_round hp hn hr hd).1]
  rfl
theorem bet_one {n : Nat} (h : n ≤ 1) : bet n = 1 := by unfold bet; rw [facs_small h]; rfl
theorem rootR0 {n a : Nat} {g : Nat → Int} (h : 1 ≤ a) : rootR n 0 g a = rootR n 0 g (a - 1) + if (a * a + 1) % n = 0 then g a else 0 := by
  obtain ⟨b, rfl⟩ : ∃ b, a = b + 1 := ⟨a - 1, by omega⟩
  rw [rootR, Nat.zero_mul, Nat.add_zero]
  rfl
theorem rootR1 {n a : Nat} {g : Nat → Int} (h : 1 ≤ a) : rootR n 1 g a = rootR n 1 g (a - 1) + if (a * a + a + 1) % n = 0 then g a else 0 := by
  obtain ⟨b, rfl⟩ : ∃ b, a = b + 1 := ⟨a - 1, by omega⟩
  rw [rootR, Nat.one_mul]
  rfl
theorem root_gcd0 {a n : Nat} (h : (a * a + 1) % n = 0) : Nat.gcd a n = 1 := root_gcd (c := 0) (by rw [Nat.zero_mul]; exact h)
theorem root_gcd1 {a n : Nat} (h : (a * a + a + 1) % n = 0) : Nat.gcd a n = 1 := root_gcd (c := 1) (by rw [Nat.one_mul]; exact h)
theorem sumG_bdm {G : Nat → Int} {B : Int} (hB : 0 ≤ B) : ∀ l : List Nat, (∀ d ∈ l, -B ≤ G d ∧ G d ≤ B) → -(B * l.length) ≤ sumG G l ∧ sumG G l ≤ B * l.length
  | [], _ => by simp [sumG]
  | d :: l, h => by
    have h1 := h d (List.mem_cons_self ..)
    have h2 := sumG_bdm hB l fun x hx => h x (List.mem_cons_of_mem _ hx)
    rw [sumG, List.length_cons, Int.natCast_add, Int.mul_add]
    simp only [Int.natCast_one, Int.mul_one]
    omega
/-- what a divisor gives to the new forms -/
def newG (n k : Nat) (D : Int) (m : Nat) : Int := if D.natAbs ∣ m then bet (n / m) * cuspV m k D else 0
def newV (n k : Nat) (D : Int) : Int := sumG (newG n k D) (dvs n)
theorem tdiv_bd {d k B : Int} (h1 : -B ≤ d) (h2 : d ≤ B) : -B ≤ d.tdiv k ∧ d.tdiv k ≤ B := by
  have h := Int.natAbs_tdiv d k
  have h3 := Nat.div_le_self d.natAbs k.natAbs
  change (d.tdiv k).natAbs = d.natAbs / k.natAbs at h
  generalize d.tdiv k = x at *
  generalize d.natAbs / k.natAbs = y at *
  omega
theorem psi_sm {n : Nat} (h1 : 1 ≤ n) (h2 : n ≤ 120) : 1 ≤ psi n ∧ psi n ≤ 400 := by
  have h : allB 121 (fun n => decide (n = 0) || (decide (1 ≤ prodC psiF n) && decide (prodC psiF n ≤ 400))) = true := by decide +kernel
  have := allB_at h (show n < 121 by omega)
  simp only [Bool.or_eq_true, Bool.and_eq_true, decide_eq_true_eq] at this
  rw [psi_C h1 h2]
  exact this.resolve_left (by omega)
theorem bet_sm {n : Nat} (h1 : 1 ≤ n) (h2 : n ≤ 120) : -8 ≤ bet n ∧ bet n ≤ 8 := by
  have h : allB 121 (fun n => decide (n = 0) || (decide (-8 ≤ prodC betF n) && decide (prodC betF n ≤ 8))) = true := by decide +kernel
  have := allB_at h (show n < 121 by omega)
  simp only [Bool.or_eq_true, Bool.and_eq_true, decide_eq_true_eq] at this
  rw [bet_C h1 h2]
  exact this.resolve_left (by omega)
theorem cuspV_bd {n k : Nat} (D : Int) (h1 : 1 ≤ n) (h2 : n ≤ 120) (hk : 1 ≤ k) (hk2 : k ≤ 24) : -100000 ≤ cuspV n k D ∧ cuspV n k D ≤ 100000 := by
  have a := psi_sm h1 h2
  have b := lam_bd D.natAbs (n := n) (by omega)
  have c : (n : Int) * n ≤ 120 * 120 := Int.mul_le_mul (by omega) (by omega) (by omega) (by omega)
  have d : ((k : Int) - 1) * psi n ≤ 23 * 400 := Int.mul_le_mul (by omega) (by omega) (by omega) (by omega)
  have e : 0 ≤ ((k : Int) - 1) * psi n := Int.mul_nonneg (by omega) (by omega)
  have f := four_bd D n 0 n
  have g := three_bd D n 1 n
  unfold cuspV
  refine tdiv_bd ?_ ?_ <;> (unfold dim12; (repeat' split) <;> omega)
theorem newG_bd {n k m : Nat} (D : Int) (h1 : 1 ≤ n) (h2 : n ≤ 120) (hk : 1 ≤ k) (hk2 : k ≤ 24) (hm : m ∣ n) : -800000 ≤ newG n k D m ∧ newG n k D m ≤ 800000 := by
  have hm1 := Nat.pos_of_dvd_of_pos hm h1
  have hm2 := Nat.le_of_dvd h1 hm
  have hq1 : 0 < n / m := Nat.div_pos hm2 hm1
  have hq2 := Nat.div_le_self n m
  have a := bet_sm hq1 (by omega)
  have b := cuspV_bd D hm1 (by omega) hk hk2
  unfold newG
  split
  · have h := Int.natAbs_mul (bet (n / m)) (cuspV m k D)
    have h3 : (bet (n / m)).natAbs * (cuspV m k D).natAbs ≤ 8 * 100000 := Nat.mul_le_mul (by omega) (by omega)
    omega
  · omega
theorem newS_bd {n k : Nat} (D : Int) (h1 : 1 ≤ n) (h2 : n ≤ 120) (hk : 1 ≤ k) (hk2 : k ≤ 24) (i : Nat) : -96000000 ≤ sumG (newG n k D) ((dvs n).take i) ∧ sumG (newG n k D) ((dvs n).take i) ≤ 96800000 := by
  have h := sumG_bdm (G := newG n k D) (B := 800000) (by omega) ((dvs n).take i) fun d hd => newG_bd D h1 h2 hk hk2 ((dvs_mem h1).1 (List.mem_of_mem_take hd))
  have hl : ((dvs n).take i).length ≤ n := by
    rw [List.length_take]
    have : (dvs n).length ≤ n := by
      have h0 : isDv n 0 = false := by simp [isDv]
      unfold dvs
      rw [List.range_succ_eq_map, List.filter_cons, h0]
      refine Nat.le_trans (List.length_filter_le _ _) ?_
      simp
    omega
  omega
/-- how many divisors are below d -/
def cntD (N d : Nat) : Nat := ((List.range d).filter (isDv N)).length
theorem cntD_one (N : Nat) : cntD N 1 = 0 := by simp [cntD, isDv, List.range_succ]
theorem cntD_yes {N d : Nat} (h : isDv N d = true) : cntD N (d + 1) = cntD N d + 1 := by simp [cntD, List.range_succ, h]
theorem cntD_no {N d : Nat} (h : isDv N d = false) : cntD N (d + 1) = cntD N d := by simp [cntD, List.range_succ, h]
theorem cntD_le (N d : Nat) : cntD N d ≤ d := Nat.le_trans (List.length_filter_le _ _) (by simp)
theorem cntD_at {N d : Nat} (hd : d ≤ N) (h : isDv N d = true) : (dvs N)[cntD N d]? = some d := by
  have e : List.range (N + 1) = List.range d ++ d :: (List.range (N - d)).map (· + (d + 1)) := by
    have h1 : N + 1 = d + (N + 1 - d) := by omega
    rw [h1, List.range_add]
    congr 1
    rw [show N + 1 - d = (N - d) + 1 by omega, List.range_succ_eq_map, List.map_cons, List.map_map]
    congr 1
    apply List.map_congr_left
    intro x _
    simp
    omega
  unfold dvs cntD
  rw [e, List.filter_append, List.filter_cons, if_pos h, List.getElem?_append_right (Nat.le_refl _), Nat.sub_self]
  rfl
theorem cntD_end (N : Nat) : cntD N (N + 1) = (dvs N).length := rfl
end HP

