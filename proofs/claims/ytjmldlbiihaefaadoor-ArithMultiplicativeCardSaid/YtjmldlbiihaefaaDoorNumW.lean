import Derived.Test.YtjmldlbiihaefaaDoorNumA
/-! Plain number theory: multiplicative functions; sums over the divisors. -/
namespace HP

theorem asc_lt : ∀ {b : Nat} {l : List (Nat × Nat)}, Asc b l → ∀ x ∈ l, b < x.1
  | _, [], _, x, h => by cases h
  | b, (p, e) :: l, ⟨h1, _, _, h4⟩, x, h => by
    rcases List.mem_cons.1 h with rfl | h
    · exact h1
    · have := asc_lt h4 x h; omega
theorem asc_nodup : ∀ {b : Nat} {l : List (Nat × Nat)}, Asc b l → l.Nodup
  | _, [], _ => List.nodup_nil
  | b, (p, e) :: l, ⟨_, _, _, h4⟩ => List.nodup_cons.2 ⟨fun h => by have := asc_lt h4 _ h; simp at this, asc_nodup h4⟩
theorem dvd_pow_one {p e : Nat} (he : 1 ≤ e) : p ∣ p ^ e := by
  have := Nat.pow_dvd_pow p he
  rwa [Nat.pow_one] at this
theorem facs_iff {N : Nat} (hN : 0 < N) (p e : Nat) : (p, e) ∈ facs N ↔ Prm p ∧ 1 ≤ e ∧ p ^ e ∣ N ∧ ¬ p ^ (e + 1) ∣ N := by
  constructor
  · intro h
    exact ⟨(facs_mem hN _ h).1, (facs_mem hN _ h).2.1, facs_pow_dvd hN _ h, facs_not hN _ h⟩
  · rintro ⟨hp, he, hd, hn⟩
    have h1 : p ∣ natL (facs N) := by
      rw [natL_facs N hN]
      exact Nat.dvd_trans (dvd_pow_one he) hd
    obtain ⟨⟨q, k⟩, hx, rfl⟩ := natL_prime hp (fun x hx => (facs_mem hN x hx).1) h1
    have h2 := facs_pow_dvd hN _ hx
    have h3 := facs_not hN _ hx
    have : k = e := by
      rcases Nat.lt_trichotomy k e with h | h | h
      · exact absurd (Nat.dvd_trans (Nat.pow_dvd_pow q h) hd) h3
      · exact h
      · exact absurd (Nat.dvd_trans (Nat.pow_dvd_pow q h) h2) hn
    subst this; exact hx
theorem pow_dvd_left {p e m n : Nat} (hp : Prm p) (hn : ¬ p ∣ n) : p ^ e ∣ m * n ↔ p ^ e ∣ m :=
  ⟨fun h => (Nat.Coprime.pow_left e (hp.coprime hn)).dvd_of_dvd_mul_right h, fun h => Nat.dvd_trans h ⟨n, rfl⟩⟩
theorem not_both {p m n : Nat} (hp : Prm p) (hc : Nat.Coprime m n) (h1 : p ∣ m) (h2 : p ∣ n) : False :=
  hp.not_dvd_one (by have := Nat.dvd_gcd h1 h2; rwa [hc] at this)
theorem facs_mul {m n : Nat} (hm : 0 < m) (hn : 0 < n) (hc : Nat.Coprime m n) : (facs (m * n)).Perm (facs m ++ facs n) := by
  refine (List.perm_ext_iff_of_nodup (asc_nodup (facs_asc1 _ (Nat.mul_pos hm hn))) ?_).2 ?_
  · refine List.nodup_append.2 ⟨asc_nodup (facs_asc1 _ hm), asc_nodup (facs_asc1 _ hn), ?_⟩
    rintro ⟨p, e⟩ hx ⟨q, k⟩ hy h
    cases h
    exact not_both (facs_mem hm _ hx).1 hc (facs_mem hm _ hx).2.2 (facs_mem hn _ hy).2.2
  · rintro ⟨p, e⟩
    rw [List.mem_append, facs_iff (Nat.mul_pos hm hn), facs_iff hm, facs_iff hn]
    constructor
    · rintro ⟨hp, he, h1, h2⟩
      by_cases hpn : p ∣ n
      · have hpm : ¬ p ∣ m := fun h => not_both hp hc h hpn
        rw [Nat.mul_comm, pow_dvd_left hp hpm] at h1 h2
        exact .inr ⟨hp, he, h1, h2⟩
      · rw [pow_dvd_left hp hpn] at h1 h2
        exact .inl ⟨hp, he, h1, h2⟩
    · rintro (⟨hp, he, h1, h2⟩ | ⟨hp, he, h1, h2⟩)
      · have hpn : ¬ p ∣ n := fun h => not_both hp hc (Nat.dvd_trans (dvd_pow_one he) h1) h
        rw [pow_dvd_left hp hpn, pow_dvd_left hp hpn]
        exact ⟨hp, he, h1, h2⟩
      · have hpm : ¬ p ∣ m := fun h => not_both hp hc h (Nat.dvd_trans (dvd_pow_one he) h1)
        rw [Nat.mul_comm, pow_dvd_left hp hpm, pow_dvd_left hp hpm]
        exact ⟨hp, he, h1, h2⟩
theorem prodL_perm (f : Nat → Nat → Int) {l m : List (Nat × Nat)} (h : l.Perm m) : prodL f l = prodL f m := by
  induction h with
  | nil => rfl
  | cons x _ ih => obtain ⟨p, e⟩ := x; show f p e * _ = f p e * _; rw [ih]
  | swap x y l =>
    obtain ⟨p, e⟩ := x; obtain ⟨q, k⟩ := y
    show f q k * (f p e * prodL f l) = f p e * (f q k * prodL f l)
    rw [← Int.mul_assoc, ← Int.mul_assoc, Int.mul_comm (f q k)]
  | trans _ _ a b => rw [a, b]
theorem prodL_coprime (f : Nat → Nat → Int) {m n : Nat} (hm : 0 < m) (hn : 0 < n) (hc : Nat.Coprime m n) : prodL f (facs (m * n)) = prodL f (facs m) * prodL f (facs n) := by
  rw [prodL_perm f (facs_mul hm hn hc), prodL_append]

/-- a sum over a list -/
def sumG (G : Nat → Int) : List Nat → Int
  | [] => 0
  | d :: l => G d + sumG G l
theorem sumG_append (G : Nat → Int) : ∀ l m, sumG G (l ++ m) = sumG G l + sumG G m
  | [], m => by simp [sumG]
  | d :: l, m => by rw [List.cons_append, sumG, sumG, sumG_append G l m, Int.add_assoc]
theorem sumG_next (G : Nat → Int) {l : List Nat} {i d : Nat} (h : l[i]? = some d) : sumG G (l.take (i + 1)) = sumG G (l.take i) + G d := by
  rw [List.take_add_one, h, sumG_append]
  simp [sumG]
theorem sumG_perm (G : Nat → Int) {l m : List Nat} (h : l.Perm m) : sumG G l = sumG G m := by
  induction h with
  | nil => rfl
  | cons x _ ih => show G x + _ = G x + _; rw [ih]
  | swap x y l => show G y + (G x + sumG G l) = G x + (G y + sumG G l); omega
  | trans _ _ a b => rw [a, b]
/-- the sum of G over 1, p, .., p^e -/
def geoS (G : Nat → Int) (p : Nat) : Nat → Int
  | 0 => G 1
  | e + 1 => geoS G p e + G (p ^ (e + 1))
/-- a multiplicative function -/
def Mult (G : Nat → Int) : Prop := G 1 = 1 ∧ ∀ a b, 0 < a → 0 < b → Nat.Coprime a b → G (a * b) = G a * G b
theorem sumG_map {G : Nat → Int} (hG : Mult G) {q m : Nat} (hq : 0 < q) (hm : 0 < m) (hc : Nat.Coprime m q) : ∀ L : List Nat, (∀ x ∈ L, x ∣ m) → sumG G (L.map (· * q)) = sumG G L * G q
  | [], _ => by simp [sumG]
  | y :: L, h => by
    have hy := h y (List.mem_cons_self ..)
    show G (y * q) + sumG G (L.map (· * q)) = (G y + sumG G L) * G q
    rw [sumG_map hG hq hm hc L (fun x hx => h x (List.mem_cons_of_mem _ hx)), hG.2 y q (Nat.pos_of_dvd_of_pos hy hm) hq (Nat.Coprime.coprime_dvd_left hy hc), Int.add_mul]
theorem dvE_sum {G : Nat → Int} (hG : Mult G) {p m : Nat} (hp : Prm p) (hm : 0 < m) (hpm : ¬ p ∣ m) {L : List Nat} (hL : ∀ x ∈ L, x ∣ m) : ∀ e, sumG G (dvE p L e) = sumG G L * geoS G p e
  | 0 => by rw [dvE, geoS, hG.1, Int.mul_one]
  | e + 1 => by
    rw [dvE, sumG_append, dvE_sum hG hp hm hpm hL e, sumG_map hG (Nat.pow_pos hp.pos) hm (Nat.Coprime.pow_left _ (hp.coprime hpm)).symm L hL, geoS, Int.mul_add]
theorem dvF_sum {G : Nat → Int} (hG : Mult G) {N : Nat} (hN : 0 < N) : ∀ (r l : List (Nat × Nat)) (L : List Nat), facs N = l ++ r → (∀ x ∈ L, x ∣ natL l) → sumG G (dvF L r) = sumG G L * prodL (geoS G) r
  | [], _, L, _, _ => by rw [dvF, prodL, Int.mul_one]
  | (p, e) :: r, l, L, hl, hL => by
    have hmem : (p, e) ∈ facs N := by rw [hl]; simp
    have hp : Prm p := (facs_mem hN _ hmem).1
    have hnot := facs_not hN _ hmem
    have hNe : N = natL l * (p ^ e * natL r) := by rw [← natL_facs N hN, hl, natL_append]; rfl
    have hlp : 0 < natL l := Nat.pos_of_ne_zero fun h => by rw [h, Nat.zero_mul] at hNe; omega
    have hpl : ¬ p ∣ natL l := fun h => hnot (by
      rw [hNe]
      have h1 : p * p ^ e ∣ natL l * p ^ e := Nat.mul_dvd_mul_right h _
      rw [show natL l * (p ^ e * natL r) = natL l * p ^ e * natL r by grind, show p ^ (e + 1) = p * p ^ e by rw [Nat.pow_succ, Nat.mul_comm]]
      exact Nat.dvd_trans h1 ⟨natL r, rfl⟩)
    have e1 : natL (l ++ [(p, e)]) = natL l * p ^ e := by
      rw [natL_append]
      show natL l * (p ^ e * 1) = _
      rw [Nat.mul_one]
    have ih := dvF_sum hG hN r (l ++ [(p, e)]) (dvE p L e) (by rw [hl, List.append_assoc]; rfl) (fun x hx => by
      obtain ⟨j, hj, y, hy, rfl⟩ := (dvE_mem e).1 hx
      rw [e1]
      exact Nat.mul_dvd_mul (hL y hy) (Nat.pow_dvd_pow p hj))
    rw [dvF, ih, dvE_sum hG hp hlp hpl hL e, prodL, Int.mul_assoc]
theorem dvs_nodup (N : Nat) : (dvs N).Nodup := (dvs_sorted N).imp fun h => Nat.ne_of_lt h
theorem dvs_perm {N : Nat} (hN : 0 < N) : (dvs N).Perm (dvF [1] (facs N)) :=
  (List.perm_ext_iff_of_nodup (dvs_nodup N) (dvF_facs hN).2).2 fun x => by rw [dvs_mem hN, (dvF_facs hN).1]
theorem dvs_sum {G : Nat → Int} (hG : Mult G) {N : Nat} (hN : 0 < N) : sumG G (dvs N) = prodL (geoS G) (facs N) := by
  rw [sumG_perm G (dvs_perm hN), dvF_sum hG hN (facs N) [] [1] rfl (fun x hx => by rw [List.mem_singleton.1 hx]; exact Nat.dvd_refl _)]
  show (G 1 + 0) * _ = _
  rw [hG.1, Int.add_zero, Int.one_mul]
theorem facs_pow {p e : Nat} (hp : Prm p) (he : 0 < e) : facs (p ^ e) = [(p, e)] := by
  have := facs_of (b := 1) [(p, e)] ⟨hp.1, hp, he, trivial⟩
  rwa [show natL [(p, e)] = p ^ e from Nat.mul_one _] at this
theorem mult_prodL (f : Nat → Nat → Int) : Mult (fun n => prodL f (facs n)) :=
  ⟨by show prodL f (facs 1) = 1; rw [facs_small (Nat.le_refl 1)]; rfl, fun _ _ ha hb hc => prodL_coprime f ha hb hc⟩
theorem geo_phi {p : Nat} (hp : Prm p) : ∀ e, geoS phi p e = (p : Int) ^ e
  | 0 => (mult_prodL phiF).1
  | e + 1 => by
    have h : phi (p ^ (e + 1)) = phiF p (e + 1) := by
      show prodL phiF (facs (p ^ (e + 1))) = _
      rw [facs_pow hp (by omega)]
      show phiF p (e + 1) * 1 = _
      rw [Int.mul_one]
    rw [geoS, geo_phi hp e, h, phiF_eq hp.pos]
    rw [Nat.add_sub_cancel, Int.natCast_pow, Int.pow_succ, Int.mul_sub, Int.mul_one]
    omega
theorem sum_phi {N : Nat} (hN : 0 < N) : sumG phi (dvs N) = N := by
  have h := dvs_sum (mult_prodL phiF) hN
  rw [show sumG phi (dvs N) = _ from h, ← prod_facs N hN]
  exact prodL_congr _ fun x hx => geo_phi (facs_mem hN x hx).1 x.2
theorem geo_mob {p : Nat} (hp : Prm p) : ∀ e, 1 ≤ e → geoS mob p e = 0
  | 0, h => absurd h (by omega)
  | e + 1, _ => by
    have h : mob (p ^ (e + 1)) = mobF p (e + 1) := by
      show prodL mobF (facs (p ^ (e + 1))) = _
      rw [facs_pow hp (by omega)]
      show mobF p (e + 1) * 1 = _
      rw [Int.mul_one]
    rw [geoS, h]
    by_cases h0 : e = 0
    · subst h0
      rw [geoS, show mob 1 = 1 from (mult_prodL mobF).1]
      rfl
    · rw [geo_mob hp e (by omega)]
      unfold mobF
      rw [if_pos (by omega)]
      rfl
theorem sum_mob {N : Nat} (hN : 0 < N) : sumG mob (dvs N) = if N = 1 then 1 else 0 := by
  have h := dvs_sum (mult_prodL mobF) hN
  rw [show sumG mob (dvs N) = _ from h]
  split
  · next h => subst h; rw [facs_small (Nat.le_refl 1)]; rfl
  · next h =>
    have hm := facs_mem hN
    rw [facs_big (by omega)] at hm ⊢
    have h1 := hm _ (List.mem_cons_self ..)
    have h2 : geoS (fun n => prodL mobF (facs n)) (lpf N) (mlt (lpf N) N) = 0 := geo_mob h1.1 _ h1.2.1
    rw [prodL, h2, Int.zero_mul]
theorem phi_coprime {m n : Nat} (hm : 0 < m) (hn : 0 < n) (hc : Nat.Coprime m n) : phi (m * n) = phi m * phi n := prodL_coprime phiF hm hn hc
theorem psi_coprime {m n : Nat} (hm : 0 < m) (hn : 0 < n) (hc : Nat.Coprime m n) : psi (m * n) = psi m * psi n := prodL_coprime psiF hm hn hc
theorem mult_pow (k : Nat) : Mult (fun d => (d : Int) ^ k) :=
  ⟨Int.one_pow, fun a b _ _ _ => by simp [Int.mul_pow]⟩
theorem sigma_coprime (k : Nat) {m n : Nat} (hm : 0 < m) (hn : 0 < n) (hc : Nat.Coprime m n) : sumG (fun d => (d : Int) ^ k) (dvs (m * n)) = sumG (fun d => (d : Int) ^ k) (dvs m) * sumG (fun d => (d : Int) ^ k) (dvs n) := by
  rw [dvs_sum (mult_pow k) (Nat.mul_pos hm hn), dvs_sum (mult_pow k) hm, dvs_sum (mult_pow k) hn, prodL_coprime _ hm hn hc]
theorem sumG_bd {G : Nat → Int} {B : Int} (hB : 0 ≤ B) (h : ∀ d, -B ≤ G d ∧ G d ≤ B) : ∀ l : List Nat, -(B * l.length) ≤ sumG G l ∧ sumG G l ≤ B * l.length
  | [] => by simp [sumG]
  | d :: l => by
    have h1 := h d
    have h2 := sumG_bd hB h l
    rw [sumG, List.length_cons, Int.natCast_add, Int.mul_add]
    simp only [Int.natCast_one, Int.mul_one]
    omega
end HP
