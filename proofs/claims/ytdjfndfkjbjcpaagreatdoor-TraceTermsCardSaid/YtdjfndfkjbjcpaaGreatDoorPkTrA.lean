/- Own texts joined: TrA, TrB, TrC, TrD, TrE. -/
import Derived.Test.YtdjfndfkjbjcpaaGreatDoorPkNumW
import Derived.Test.YtdjfndfkjbjcpaaGreatDoorPkNumS
import Derived.Test.YtdjfndfkjbjcpaaGreatDoorPkMnA
/- The trace formula in plain words: class numbers, the factor of the level, the terms as integers. -/
namespace HP
def fC (D a b : Int) : Int := (b * b + D) / (4 * a)
def fOk (D a b : Int) : Prop := (b * b + D) % (4 * a) = 0 ∧ a ≤ fC D a b ∧ (fC D a b = a → 0 ≤ b) ∧ Int.gcd (Int.gcd a b) (fC D a b) ≤ 1
instance (D a b : Int) : Decidable (fOk D a b) := inferInstanceAs (Decidable (_ ∧ _ ∧ (_ → _) ∧ _))
def cntB (D a : Int) : Nat → Nat
  | 0 => 0
  | m + 1 => cntB D a m + if fOk D a (1 - a + m) then 1 else 0
def cntA (D : Int) : Nat → Nat
  | 0 => 0
  | m + 1 => cntA D m + cntB D (m + 1 : Nat) (2 * (m + 1))
def sq3 (D : Nat) : Nat → Nat
  | 0 => 0
  | m + 1 => if 3 * ((m + 1) * (m + 1)) ≤ D then m + 1 else sq3 D m
def clsN (D : Nat) : Nat := cntA D (sq3 D 37)
theorem sq3_spec (D : Nat) : ∀ m, 3 * (sq3 D m * sq3 D m) ≤ D ∧ sq3 D m ≤ m ∧ (sq3 D m < m → D < 3 * ((sq3 D m + 1) * (sq3 D m + 1)))
  | 0 => ⟨Nat.zero_le _, Nat.le_refl _, fun h => absurd h (Nat.lt_irrefl _)⟩
  | m + 1 => by
    unfold sq3
    by_cases h : 3 * ((m + 1) * (m + 1)) ≤ D
    · rw [if_pos h]
      exact ⟨h, Nat.le_refl _, fun x => absurd x (Nat.lt_irrefl _)⟩
    · rw [if_neg h]
      obtain ⟨a, b, c⟩ := sq3_spec D m
      refine ⟨a, by omega, fun _ => ?_⟩
      by_cases e : sq3 D m < m
      · exact c e
      · have : sq3 D m = m := by omega
        rw [this]
        omega
theorem sq_lt {a b : Nat} (h : a * a < b * b) : a < b := Nat.lt_of_not_le fun x => by
  have := Nat.mul_le_mul x x
  omega
theorem sq3_out {D : Nat} (hD : D ≤ 4000) : sq3 D 37 ≤ 36 ∧ 3 * (sq3 D 37 * sq3 D 37) ≤ D ∧ D < 3 * ((sq3 D 37 + 1) * (sq3 D 37 + 1)) := by
  obtain ⟨a, _, c⟩ := sq3_spec D 37
  have h : sq3 D 37 < 37 := sq_lt (by omega)
  exact ⟨by omega, a, c h⟩
theorem sq3_at {D a : Nat} (hD : D ≤ 4000) : 3 * (a * a) ≤ D ↔ a ≤ sq3 D 37 := by
  obtain ⟨_, h1, h2⟩ := sq3_out hD
  constructor
  · intro h
    have : a < sq3 D 37 + 1 := sq_lt (by omega)
    omega
  · intro h
    have := Nat.mul_le_mul h h
    omega
theorem cntB_le (D a : Int) : ∀ m, cntB D a m ≤ m
  | 0 => Nat.le_refl _
  | m + 1 => by
    have := cntB_le D a m
    unfold cntB
    split <;> omega
theorem cntA_le (D : Int) : ∀ m, cntA D m ≤ m * (m + 1)
  | 0 => Nat.zero_le _
  | m + 1 => by
    have h1 := cntA_le D m
    have h2 := cntB_le D ((m + 1 : Nat) : Int) (2 * (m + 1))
    unfold cntA
    rw [show (m + 1) * (m + 1 + 1) = m * (m + 1) + 2 * (m + 1) by grind]
    omega
theorem clsN_le {D : Nat} (hD : D ≤ 4000) : clsN D ≤ 1332 := by
  obtain ⟨h, _⟩ := sq3_out hD
  have h1 := cntA_le D (sq3 D 37)
  have h2 : sq3 D 37 * (sq3 D 37 + 1) ≤ 36 * 37 := Nat.mul_le_mul h (by omega)
  unfold clsN
  omega
def posD (D : Nat) : Prop := 1 ≤ D ∧ D ≤ 4000 ∧ (D % 4 = 0 ∨ D % 4 = 3)
instance (D : Nat) : Decidable (posD D) := inferInstanceAs (Decidable (_ ∧ _ ∧ _))
def untN (D : Nat) : Nat := if D = 3 then 6 else if D = 4 then 4 else 2
def w6 (D : Nat) : Nat := if D = 3 then 2 * clsN D else if D = 4 then 3 * clsN D else 6 * clsN D
theorem w6_le {D : Nat} (hD : D ≤ 4000) : w6 D ≤ 7992 := by
  have := clsN_le hD
  unfold w6
  split
  · omega
  · split <;> omega
def sx (z : Int) : Rat := (z : Rat) / ((6 : Int) : Rat)
def tw (z : Int) : Rat := (z : Rat) / ((12 : Int) : Rat)
theorem six_ne : ((6 : Int) : Rat) ≠ 0 := by decide +kernel
theorem twl_ne : ((12 : Int) : Rat) ≠ 0 := by decide +kernel
theorem two_ne : ((2 : Int) : Rat) ≠ 0 := by decide +kernel
theorem sx_add (a b : Int) : sx a + sx b = sx (a + b) := by unfold sx; rw [Rat.intCast_add]; grind
theorem sx_mul (a b : Int) : (a : Rat) * sx b = sx (a * b) := by unfold sx; rw [Rat.intCast_mul]; grind
theorem sx_mulr (a b : Int) : sx a * (b : Rat) = sx (a * b) := by unfold sx; rw [Rat.intCast_mul]; grind
theorem tw_add (a b : Int) : tw a + tw b = tw (a + b) := by unfold tw; rw [Rat.intCast_add]; grind
theorem tw_sub (a b : Int) : tw a - tw b = tw (a - b) := by unfold tw; rw [Rat.intCast_sub]; grind
theorem tw_mulr (a b : Int) : tw a * (b : Rat) = tw (a * b) := by unfold tw; rw [Rat.intCast_mul]; grind
theorem sx_half (a : Int) : sx a / ((2 : Int) : Rat) = tw a := by
  unfold sx tw
  have h : ((12 : Int) : Rat) = ((6 : Int) : Rat) * ((2 : Int) : Rat) := by rw [← Rat.intCast_mul]; rfl
  rw [h]
  have := six_ne
  have := two_ne
  grind
theorem int_half (a : Int) : (a : Rat) / ((2 : Int) : Rat) = tw (6 * a) := by
  unfold tw
  have h : ((12 : Int) : Rat) = ((6 : Int) : Rat) * ((2 : Int) : Rat) := by rw [← Rat.intCast_mul]; rfl
  rw [h, Rat.intCast_mul]
  have := six_ne
  have := two_ne
  grind
theorem int_tw (a : Int) : (a : Rat) = tw (12 * a) := by
  unfold tw
  rw [Rat.intCast_mul]
  have := twl_ne
  grind
theorem sx_zero : sx 0 = ((0 : Int) : Rat) := by decide +kernel
theorem tw_zero : tw 0 = ((0 : Int) : Rat) := by decide +kernel
theorem divInt_div (a b : Int) : Rat.divInt a b = (a : Rat) / (b : Rat) := Rat.divInt_eq_div a b
theorem tw_int {a : Int} (h : (12 : Int) ∣ a) : tw a = ((a / 12 : Int) : Rat) := by
  obtain ⟨b, rfl⟩ := h
  rw [Int.mul_ediv_cancel_left _ (by omega)]
  unfold tw
  rw [Rat.intCast_mul]
  have := twl_ne
  grind
theorem wt_sx (D : Nat) : Rat.divInt (clsN D : Int) ((untN D / 2 : Nat) : Int) = sx (w6 D : Int) := by
  rw [divInt_div]
  unfold sx untN w6
  have h6 := six_ne
  by_cases h3 : D = 3
  · rw [if_pos h3, if_pos h3]
    show ((clsN D : Int) : Rat) / ((3 : Int) : Rat) = _
    have e : ((6 : Int) : Rat) = ((2 : Int) : Rat) * ((3 : Int) : Rat) := by rw [← Rat.intCast_mul]; rfl
    have n3 : ((3 : Int) : Rat) ≠ 0 := by decide +kernel
    have n2 := two_ne
    rw [e, Int.natCast_mul, Rat.intCast_mul]
    show _ = (((2 : Int) : Rat) * _) / _
    grind
  · rw [if_neg h3, if_neg h3]
    by_cases h4 : D = 4
    · rw [if_pos h4, if_pos h4]
      show ((clsN D : Int) : Rat) / ((2 : Int) : Rat) = _
      have e : ((6 : Int) : Rat) = ((3 : Int) : Rat) * ((2 : Int) : Rat) := by rw [← Rat.intCast_mul]; rfl
      have n3 : ((3 : Int) : Rat) ≠ 0 := by decide +kernel
      have n2 := two_ne
      rw [e, Int.natCast_mul, Rat.intCast_mul]
      show _ = (((3 : Int) : Rat) * _) / _
      grind
    · rw [if_neg h4, if_neg h4]
      show ((clsN D : Int) : Rat) / ((1 : Int) : Rat) = _
      have n1 : ((1 : Int) : Rat) = 1 := rfl
      rw [n1, Int.natCast_mul, Rat.intCast_mul]
      show _ = (((6 : Int) : Rat) * _) / _
      grind
end HP

/- The trace formula in plain words: the terms. -/
namespace HP
def chiZ (N : Nat) (Δ : Int) (a : Nat) : Int := if Nat.gcd a N = 1 then jac Δ a else 0
theorem chiZ_tri (N : Nat) (Δ : Int) {a : Nat} (h : 0 < a) : chiZ N Δ a = 0 ∨ chiZ N Δ a = 1 ∨ chiZ N Δ a = -1 := by
  unfold chiZ
  split
  · exact jac_tri Δ a h
  · exact .inl rfl
def fq (t n b : Int) : Int := b * b - t * b + n
def lifts (N g : Nat) (t n : Int) (a : Nat) : Nat → Bool
  | 0 => false
  | m + 1 => lifts N g t n a m || decide (((N * g : Nat) : Int) ∣ fq t n ((a : Int) + (N : Int) * (m : Int)))
def locS (N g : Nat) (Δ t n : Int) : Nat → Int
  | 0 => 0
  | m + 1 => locS N g Δ t n m + if lifts N g t n (m + 1) g = true then chiZ N Δ (m + 1) else 0
theorem locS_bd (N g : Nat) (Δ t n : Int) : ∀ m : Nat, -(m : Int) ≤ locS N g Δ t n m ∧ locS N g Δ t n m ≤ m
  | 0 => ⟨Int.le_refl _, Int.le_refl _⟩
  | m + 1 => by
    have h := locS_bd N g Δ t n m
    have := chiZ_tri N Δ (a := m + 1) (by omega)
    unfold locS
    split <;> omega
def locZ (N e : Nat) (Δ t n : Int) : Int := psi N / psi (N / Nat.gcd N e) * locS N (Nat.gcd N e) Δ t n N
theorem psi_quo {N e : Nat} (h1 : 1 ≤ N) (h2 : N ≤ 120) : 0 ≤ psi N / psi (N / Nat.gcd N e) ∧ psi N / psi (N / Nat.gcd N e) ≤ 400 := by
  obtain ⟨p1, p2⟩ := psi_sm h1 h2
  have hg : 0 < Nat.gcd N e := Nat.gcd_pos_of_pos_left _ (by omega)
  have hd : 1 ≤ N / Nat.gcd N e := Nat.div_pos (Nat.le_of_dvd (by omega) (Nat.gcd_dvd_left _ _)) hg
  have hd2 : N / Nat.gcd N e ≤ 120 := Nat.le_trans (Nat.div_le_self _ _) h2
  obtain ⟨q1, q2⟩ := psi_sm hd hd2
  generalize psi N = x at *
  generalize psi (N / Nat.gcd N e) = y at *
  refine ⟨Int.ediv_nonneg (by omega) (by omega), ?_⟩
  have := Int.ediv_le_self (b := y) (show 0 ≤ x by omega)
  omega
theorem abs_mul {a b : Int} {x y : Nat} (h1 : a.natAbs ≤ x) (h2 : b.natAbs ≤ y) : (a * b).natAbs ≤ x * y := by
  rw [Int.natAbs_mul]
  exact Nat.mul_le_mul h1 h2
theorem locZ_bd {N e : Nat} {Δ t n : Int} (h1 : 1 ≤ N) (h2 : N ≤ 120) : (locZ N e Δ t n).natAbs ≤ 48000 := by
  have p := psi_quo (e := e) h1 h2
  have s := locS_bd N (Nat.gcd N e) Δ t n N
  exact abs_mul (x := 400) (y := 120) (by omega) (by omega)
def innT (N : Nat) (Δ t n : Int) (D e : Nat) : Int := if D % (e * e) = 0 ∧ posD (D / (e * e)) then (w6 (D / (e * e)) : Int) * locZ N e Δ t n else 0
def innZ (N : Nat) (Δ t n : Int) (D : Nat) : Nat → Int
  | 0 => 0
  | m + 1 => innZ N Δ t n D m + innT N Δ t n D (m + 1)
theorem innT_bd {N : Nat} {Δ t n : Int} {D e : Nat} (h1 : 1 ≤ N) (h2 : N ≤ 120) : (innT N Δ t n D e).natAbs ≤ 383616000 := by
  unfold innT
  split
  · next h =>
    have l := locZ_bd (e := e) (Δ := Δ) (t := t) (n := n) h1 h2
    have w := w6_le h.2.2.1
    exact abs_mul (x := 7992) (y := 48000) (by omega) l
  · exact Nat.zero_le _
theorem innZ_bd {N : Nat} {Δ t n : Int} {D : Nat} (h1 : 1 ≤ N) (h2 : N ≤ 120) : ∀ m, (innZ N Δ t n D m).natAbs ≤ m * 383616000
  | 0 => Nat.zero_le _
  | m + 1 => by
    have a := innZ_bd (Δ := Δ) (t := t) (n := n) (D := D) h1 h2 m
    have b := innT_bd (Δ := Δ) (t := t) (n := n) (D := D) (e := m + 1) h1 h2
    unfold innZ
    omega
theorem innT_big {N : Nat} {Δ t n : Int} {D e : Nat} (h0 : 0 < D) (h : D < e * e) : innT N Δ t n D e = 0 := by
  unfold innT
  rw [if_neg]
  rintro ⟨a, _⟩
  rw [Nat.mod_eq_of_lt h] at a
  omega
theorem innZ_end {N : Nat} {Δ t n : Int} {D m : Nat} (h0 : 0 < D) (h : D < (m + 1) * (m + 1)) : ∀ k, innZ N Δ t n D (m + k) = innZ N Δ t n D m
  | 0 => rfl
  | k + 1 => by
    show innZ N Δ t n D (m + k) + innT N Δ t n D (m + k + 1) = _
    rw [innZ_end h0 h k, innT_big h0, Int.add_zero]
    exact Nat.lt_of_lt_of_le h (Nat.mul_le_mul (by omega) (by omega))
def pk (t n : Int) : Nat → Int × Int
  | 0 => (0, 1)
  | j + 1 => ((pk t n j).2, t * (pk t n j).2 - n * (pk t n j).1)
theorem pk_bd {t n : Int} (ht : t.natAbs ≤ 127) (hn : n.natAbs ≤ 128) : ∀ j, (pk t n j).1.natAbs ≤ 256 ^ j ∧ (pk t n j).2.natAbs ≤ 256 ^ j
  | 0 => ⟨by show (0 : Int).natAbs ≤ 1; decide, by show (1 : Int).natAbs ≤ 1; decide⟩
  | j + 1 => by
    obtain ⟨a, b⟩ := pk_bd ht hn j
    have x := abs_mul ht b
    have y := abs_mul hn a
    have e : 256 ^ (j + 1) = 256 ^ j * 256 := Nat.pow_succ ..
    refine ⟨?_, ?_⟩
    · show (pk t n j).2.natAbs ≤ _
      omega
    · show (t * (pk t n j).2 - n * (pk t n j).1).natAbs ≤ _
      omega
theorem pk_22 {t n : Int} (ht : t.natAbs ≤ 127) (hn : n.natAbs ≤ 128) {j : Nat} (hj : j ≤ 22) : (pk t n j).1.natAbs ≤ 256 ^ 22 ∧ (pk t n j).2.natAbs ≤ 256 ^ 22 := by
  obtain ⟨a, b⟩ := pk_bd ht hn j
  have : 256 ^ j ≤ 256 ^ 22 := Nat.pow_le_pow_right (by omega) hj
  omega
def ellT (N k : Nat) (Δ n t : Int) : Int := if t * t < 4 * n then (pk t n (k - 2)).2 * innZ N Δ t n (4 * n - t * t).toNat 22 else 0
def ellS (N k : Nat) (Δ n : Int) : Nat → Int
  | 0 => 0
  | m + 1 => ellS N k Δ n m + ellT N k Δ n (m - n - 1)
def ellZ (N k : Nat) (Δ n : Int) : Int := ellS N k Δ n (2 * n + 3).toNat
theorem sqz {t : Int} {x : Nat} (h : t * t < x * x) : t.natAbs < x := by
  refine sq_lt ?_
  have e := Int.natAbs_mul_self (a := t)
  have : ((t.natAbs * t.natAbs : Nat) : Int) = t * t := e
  omega
theorem ellT_bd {N k : Nat} {Δ n t : Int} (h1 : 1 ≤ N) (h2 : N ≤ 120) (hk : k ≤ 24) (n1 : 1 ≤ n) (n2 : n ≤ 128) : (ellT N k Δ n t).natAbs ≤ 256 ^ 22 * 8439552000 := by
  unfold ellT
  split
  · next h =>
    have ht : t.natAbs < 23 := sqz (x := 23) (by omega)
    have p := (pk_22 (t := t) (n := n) (by omega) (by omega) (show k - 2 ≤ 22 by omega)).2
    have i := innZ_bd (Δ := Δ) (t := t) (n := n) (D := (4 * n - t * t).toNat) h1 h2 22
    exact abs_mul p (by omega)
  · exact Nat.zero_le _
theorem ellS_bd' {N k : Nat} {Δ n : Int} {B : Nat} (h : ∀ t, (ellT N k Δ n t).natAbs ≤ B) : ∀ m, (ellS N k Δ n m).natAbs ≤ m * B
  | 0 => Nat.zero_le _
  | m + 1 => by
    have a := ellS_bd' h m
    have b := h (m - n - 1)
    unfold ellS
    have e : (m + 1) * B = m * B + B := Nat.succ_mul ..
    omega
theorem ellS_bd {N k : Nat} {Δ n : Int} (h1 : 1 ≤ N) (h2 : N ≤ 120) (hk : k ≤ 24) (n1 : 1 ≤ n) (n2 : n ≤ 128) (m : Nat) : (ellS N k Δ n m).natAbs ≤ m * (256 ^ 22 * 8439552000) :=
  ellS_bd' (fun _ => ellT_bd h1 h2 hk n1 n2) m
def mainZ (N k : Nat) (Δ : Int) (m : Nat) : Int := chiZ N Δ m * (k - 1) * psi N * (m : Int) ^ (k - 2)
def sumJ (f : Nat → Int) : Nat → Int
  | 0 => 0
  | m + 1 => sumJ f m + f m
theorem sumJ_bd {f : Nat → Int} {B : Nat} : ∀ {m : Nat}, (∀ i, i < m → (f i).natAbs ≤ B) → (sumJ f m).natAbs ≤ m * B
  | 0, _ => Nat.zero_le _
  | m + 1, h => by
    have a := sumJ_bd (m := m) fun i hi => h i (by omega)
    have b := h m (by omega)
    unfold sumJ
    have e : (m + 1) * B = m * B + B := Nat.succ_mul ..
    omega
theorem sumJ_congr {f g : Nat → Int} : ∀ {m : Nat}, (∀ i, i < m → f i = g i) → sumJ f m = sumJ g m
  | 0, _ => rfl
  | m + 1, h => by
    unfold sumJ
    rw [sumJ_congr (m := m) fun i hi => h i (by omega), h m (by omega)]
def yyZ (N n d c : Nat) : Nat :=
  let r := crtOut (crt (0, 1) [((d : Int), (c : Int)), (((n / d : Nat) : Int), ((N / c : Nat) : Int))])
  (r.1 + r.2.1).toNat
def hinC (N : Nat) (Δ : Int) (n d c : Nat) : Prop := (N / Δ.natAbs) % Nat.gcd c (N / c) = 0 ∧ ((Nat.gcd c (N / c) : Nat) : Int) ∣ ((n / d : Nat) : Int) - (d : Int)
instance (N : Nat) (Δ : Int) (n d c : Nat) : Decidable (hinC N Δ n d c) := inferInstanceAs (Decidable (_ ∧ _))
def hinT (N : Nat) (Δ : Int) (n d c : Nat) : Int := if hinC N Δ n d c then phi (Nat.gcd c (N / c)) * chiZ N Δ (yyZ N n d c) else 0
def dvG (N i : Nat) : Nat := (dvs N).getD i 0
def hinZ (N : Nat) (Δ : Int) (n d : Nat) : Nat → Int := sumJ fun j => hinT N Δ n d (dvG N j)
def hypT (N k : Nat) (Δ : Int) (n d : Nat) : Int := ((min d (n / d) : Nat) : Int) ^ (k - 1) * hinZ N Δ n d (dvs N).length
def hypZ (N k : Nat) (Δ : Int) (n : Nat) : Nat → Int := sumJ fun i => hypT N k Δ n (dvG n i)
theorem dvG_at {N i : Nat} (hN : 1 ≤ N) (hi : i < (dvs N).length) : 1 ≤ dvG N i ∧ dvG N i ∣ N ∧ dvG N i ≤ N := by
  have hm : dvG N i ∈ dvs N := by
    unfold dvG
    rw [List.getD_eq_getElem?_getD, List.getElem?_eq_getElem hi]
    exact List.getElem_mem hi
  unfold dvs at hm
  rw [List.mem_filter] at hm
  obtain ⟨h1, h2⟩ := hm
  have hd : dvG N i ∣ N := (isDv_iff.1 h2).2
  exact ⟨Nat.pos_of_dvd_of_pos hd (by omega), hd, Nat.le_of_dvd (by omega) hd⟩
end HP

/- The trace formula, to be reckoned. -/
namespace HP
def chiR (N : Nat) (Δ : Int) : Nat → List (Nat × Int)
  | 0 => []
  | m + 1 => bif Nat.beq (Nat.gcd (m + 1) N) 1 then (m + 1, jacK Δ (m + 1)) :: chiR N Δ m else chiR N Δ m
def liftF (N M s n a : Nat) : Nat → Bool
  | 0 => false
  | m + 1 => Nat.beq (((a + N * m) * (a + N * m) + s * (a + N * m) + n) % M) 0 || liftF N M s n a m
def sumP (f : Nat → Bool) : List (Nat × Int) → Int
  | [] => 0
  | (a, c) :: l => bif f a then c + sumP f l else sumP f l
theorem beq_f {a b : Nat} (h : a ≠ b) : Nat.beq a b = false := by
  cases e : Nat.beq a b with
  | false => rfl
  | true => exact absurd (Nat.eq_of_beq_eq_true e) h
theorem beq_t {a b : Nat} (h : a = b) : Nat.beq a b = true := by subst h; exact Nat.beq_refl a
theorem liftF_eq {N g : Nat} {t : Int} {s n a : Nat} (hs : ((N * g : Nat) : Int) ∣ (s : Int) + t) : ∀ m, liftF N (N * g) s n a m = lifts N g t n a m
  | 0 => rfl
  | m + 1 => by
    unfold liftF lifts
    rw [liftF_eq hs m, Bool.or_comm]
    congr 1
    have key : (((N * g : Nat) : Int) ∣ fq t n ((a : Int) + (N : Int) * (m : Int))) ↔ ((a + N * m) * (a + N * m) + s * (a + N * m) + n) % (N * g) = 0 := by
      rw [← Nat.dvd_iff_mod_eq_zero, ← Int.natCast_dvd_natCast]
      obtain ⟨q, hq⟩ := hs
      have e : (((a + N * m) * (a + N * m) + s * (a + N * m) + n : Nat) : Int) = fq t n ((a : Int) + (N : Int) * (m : Int)) + ((N * g : Nat) : Int) * (q * ((a : Int) + (N : Int) * (m : Int))) := by
        unfold fq
        rw [← Int.mul_assoc, ← hq]
        push_cast
        grind
      rw [e]
      constructor
      · intro h
        exact Int.dvd_add h ⟨_, rfl⟩
      · intro h
        have := Int.dvd_sub h (Int.dvd_mul_right ((N * g : Nat) : Int) (q * ((a : Int) + (N : Int) * (m : Int))))
        rwa [Int.add_sub_cancel] at this
    by_cases h : ((a + N * m) * (a + N * m) + s * (a + N * m) + n) % (N * g) = 0
    · rw [beq_t h, decide_eq_true (key.2 h)]
    · rw [beq_f h, decide_eq_false fun x => h (key.1 x)]
theorem chiZ_K {N : Nat} {Δ : Int} {a : Nat} (h1 : 1 ≤ a) (h2 : a ≤ 120) : chiZ N Δ a = if Nat.gcd a N = 1 then jacK Δ a else 0 := by
  unfold chiZ
  rw [jac_K h1 h2]
theorem sumP_loc {N g : Nat} {Δ t : Int} {s n : Nat} (hs : ((N * g : Nat) : Int) ∣ (s : Int) + t) : ∀ m, m ≤ 120 → sumP (fun a => liftF N (N * g) s n a g) (chiR N Δ m) = locS N g Δ t n m
  | 0, _ => rfl
  | m + 1, h => by
    have ih := sumP_loc (Δ := Δ) (n := n) hs m (by omega)
    unfold chiR locS
    rw [chiZ_K (by omega) h]
    by_cases hg : Nat.gcd (m + 1) N = 1
    · rw [if_pos hg, beq_t hg]
      show sumP _ ((m + 1, jacK Δ (m + 1)) :: chiR N Δ m) = _
      rw [sumP, ih, liftF_eq hs]
      cases lifts N g t n (m + 1) g
      · show locS N g Δ t n m = _ + if false = true then _ else 0
        rw [if_neg (by decide), Int.add_zero]
      · show _ + locS N g Δ t n m = _ + if true = true then _ else 0
        rw [if_pos rfl, Int.add_comm]
    · rw [if_neg hg, beq_f hg]
      show sumP _ (chiR N Δ m) = _
      rw [ih]
      split <;> omega
def clsP : Nat := 21726268492815866330878139934298346309974980957059576225091101522597616622914274437318137665295167695508893021062199351761457793625848758450627446042732540025150828418542227586372547662426919694096860735916326758212093380069271963344362453062071007757863540907485003884282514907240235123528519811065298889846737778719737349731995623286382701898845410025329700623909619407633129492529952584449017881721534621409068076044178607853312043245931644720663788855020742658429523666596863458693460142373167858828327340501332549691877296065225181394475927776368760236813648859715183921454702183135520752634046981998164929112225030640899497145086048046757037643416674367149884990403960279603633036132404766279630646884796260884253608791303009444872858453115089118767298274728919930291424111109954542102273592997708071624143867528176549477747247608867414122348648340509642868666114425436949709119337665135305317770890920274822737811711157645636938160795623215807312716180163005008366206242405914305422768245495581753538344797583822891515942765388100965867979847937104801991882439727701830699433001107115427611213110758691043885519162101684602665929561231377156082926084762600874524892477371405825962080029201136709580149489719894845738176934358274313810113827609808736358934063885039535473017659696923143307007895851421595797741276391967962070793627239024078831553434592500873589589523838468176163680783016363700046875065585929220458580471721581506034031548678509757323959447088411301391137589704873605269828060581466113623118909267516902687908283814155685116805084195184906461399784076255121315058787153682341497125941385776442907376585378925930658142384992031773710243772364249220445560024412812733907673572341946115064121368289697328097488839553651002591256060834090583440365537252256894555801809778619593157839822089094454298701941421272648360860339585001887149667982672440654026867873037908359830271940494406743642362168624869508810444813951499193260933399131865803310208314963857969654411386600331410558217617408
def w6P (D : Nat) : Nat := (clsP >>> (13 * D)) % 8192
theorem w6_chk : allB 513 (fun D => !(Nat.beq (D % 4) 0 || Nat.beq (D % 4) 3) || Nat.beq (w6P D) (w6 D)) = true := by decide +kernel
theorem w6_P {D : Nat} (h : posD D) (h2 : D ≤ 512) : w6P D = w6 D := by
  have c := allB_at w6_chk (show D < 513 by omega)
  have e : (Nat.beq (D % 4) 0 || Nat.beq (D % 4) 3) = true := by
    rcases h.2.2 with h | h
    · rw [h]; rfl
    · rw [h]; rfl
  rw [e] at c
  exact Nat.eq_of_beq_eq_true c
def locF (N : Nat) (L : List (Nat × Int)) (s n e : Nat) : Int :=
  let g := Nat.gcd N e
  prodC psiF N / prodC psiF (N / g) * sumP (fun a => liftF N (N * g) s n a g) L
def negM (t : Int) (M : Nat) : Nat := ((-t) % (M : Int)).toNat
theorem negM_dvd {t : Int} {M : Nat} (h : 0 < M) : (M : Int) ∣ (negM t M : Int) + t := by
  unfold negM
  have := Int.emod_nonneg (-t) (show (M : Int) ≠ 0 by omega)
  rw [Int.toNat_of_nonneg this]
  have := Int.mul_ediv_add_emod (-t) M
  exact ⟨-(-t / M), by rw [Int.mul_neg]; omega⟩
theorem locF_eq {N : Nat} {Δ t : Int} {n e : Nat} (h1 : 1 ≤ N) (h2 : N ≤ 120) : locF N (chiR N Δ N) (negM t (N * Nat.gcd N e)) n e = locZ N e Δ t n := by
  have hg : 0 < Nat.gcd N e := Nat.gcd_pos_of_pos_left _ (by omega)
  have hd : 1 ≤ N / Nat.gcd N e := Nat.div_pos (Nat.le_of_dvd (by omega) (Nat.gcd_dvd_left _ _)) hg
  unfold locF locZ
  rw [psi_C h1 h2, psi_C hd (Nat.le_trans (Nat.div_le_self _ _) h2)]
  show _ * sumP _ _ = _
  rw [sumP_loc (negM_dvd (Nat.mul_pos (by omega) hg)) N h2]
def esT (D : Nat) : Nat → List (Nat × Nat)
  | 0 => []
  | m + 1 => bif Nat.ble ((m + 1) * (m + 1)) D && (Nat.beq (D % ((m + 1) * (m + 1))) 0 && (Nat.beq (D / ((m + 1) * (m + 1)) % 4) 0 || Nat.beq (D / ((m + 1) * (m + 1)) % 4) 3)) then (m + 1, w6P (D / ((m + 1) * (m + 1)))) :: esT D m else esT D m
def innL (N : Nat) (L : List (Nat × Int)) (t : Int) (n : Nat) : List (Nat × Nat) → Int
  | [] => 0
  | (e, w) :: es => (w : Int) * locF N L (negM t (N * Nat.gcd N e)) n e + innL N L t n es
theorem innL_eq {N : Nat} {Δ t : Int} {n D : Nat} (h1 : 1 ≤ N) (h2 : N ≤ 120) (h0 : 1 ≤ D) (hD : D ≤ 512) : ∀ m, innL N (chiR N Δ N) t n (esT D m) = innZ N Δ t n D m
  | 0 => rfl
  | m + 1 => by
    have ih := innL_eq (Δ := Δ) (t := t) (n := n) h1 h2 h0 hD m
    unfold esT innZ innT
    by_cases hb : (m + 1) * (m + 1) ≤ D
    · rw [Nat.ble_eq_true_of_le hb, Bool.true_and]
      have hq : 1 ≤ D / ((m + 1) * (m + 1)) := Nat.div_pos hb (Nat.mul_pos (by omega) (by omega))
      have hq2 : D / ((m + 1) * (m + 1)) ≤ 512 := Nat.le_trans (Nat.div_le_self _ _) hD
      by_cases hz : D % ((m + 1) * (m + 1)) = 0
      · rw [beq_t hz, Bool.true_and]
        by_cases hp : posD (D / ((m + 1) * (m + 1)))
        · have e : (Nat.beq (D / ((m + 1) * (m + 1)) % 4) 0 || Nat.beq (D / ((m + 1) * (m + 1)) % 4) 3) = true := by
            rcases hp.2.2 with h | h
            · rw [h]; rfl
            · rw [h]; rfl
          rw [e, if_pos ⟨hz, hp⟩]
          show (_ : Int) * _ + innL _ _ _ _ _ = _
          rw [ih, w6_P hp hq2, locF_eq h1 h2, Int.add_comm]
        · have e : (Nat.beq (D / ((m + 1) * (m + 1)) % 4) 0 || Nat.beq (D / ((m + 1) * (m + 1)) % 4) 3) = false := by
            rw [beq_f fun h => hp ⟨hq, by omega, .inl h⟩, beq_f fun h => hp ⟨hq, by omega, .inr h⟩]
            rfl
          rw [e, if_neg fun h => hp h.2, Int.add_zero]
          exact ih
      · rw [beq_f hz, Bool.false_and, if_neg fun h => hz h.1, Int.add_zero]
        exact ih
    · have e : Nat.ble ((m + 1) * (m + 1)) D = false := by
        cases h : Nat.ble ((m + 1) * (m + 1)) D with
        | false => rfl
        | true => exact absurd (Nat.le_of_ble_eq_true h) hb
      rw [e, Bool.false_and, if_neg, Int.add_zero]
      · exact ih
      · rintro ⟨h, _⟩
        rw [Nat.mod_eq_of_lt (by omega)] at h
        omega
def tabT (n : Nat) : Nat → List (Int × List (Nat × Nat))
  | 0 => []
  | m + 1 => let t : Int := (m : Int) - n - 1
    if t * t < 4 * n then (t, esT (4 * (n : Int) - t * t).toNat 22) :: tabT n m else tabT n m
def tabA (N : Nat) (L : List (Nat × Int)) (n : Nat) : List (Int × List (Nat × Nat)) → List (Int × Int)
  | [] => []
  | (t, es) :: l => (t, innL N L t n es) :: tabA N L n l
def ellP (k : Nat) (n : Int) : List (Int × Int) → Int
  | [] => 0
  | (t, a) :: l => (pk t n (k - 2)).2 * a + ellP k n l
theorem ellP_eq {N k n : Nat} {Δ : Int} (h1 : 1 ≤ N) (h2 : N ≤ 120) (n1 : 1 ≤ n) (n2 : n ≤ 128) : ∀ m, ellP k n (tabA N (chiR N Δ N) n (tabT n m)) = ellS N k Δ n m
  | 0 => rfl
  | m + 1 => by
    have ih := ellP_eq (k := k) (Δ := Δ) h1 h2 n1 n2 m
    unfold tabT ellS ellT
    simp only
    by_cases ht : ((m : Int) - n - 1) * ((m : Int) - n - 1) < 4 * n
    · rw [if_pos ht, if_pos ht]
      show (_ : Int) * innL _ _ _ _ _ + ellP k n (tabA _ _ _ _) = _
      have hnn : 0 ≤ ((m : Int) - n - 1) * ((m : Int) - n - 1) := by
        have e := Int.natAbs_mul_self (a := (m : Int) - n - 1)
        omega
      rw [ih, innL_eq h1 h2 (by omega) (by omega), Int.add_comm]
    · rw [if_neg ht, if_neg ht, Int.add_zero]
      exact ih
theorem ellZ_P {N k n : Nat} {Δ : Int} (h1 : 1 ≤ N) (h2 : N ≤ 120) (n1 : 1 ≤ n) (n2 : n ≤ 128) : ellZ N k Δ n = ellP k n (tabA N (chiR N Δ N) n (tabT n (2 * n + 3))) := by
  rw [ellP_eq h1 h2 n1 n2]
  unfold ellZ
  congr 1
end HP

/- The trace formula in plain words: the hyperbolic term, all terms. -/
namespace HP
theorem crtStep_ex {c : Int × Int} {r m : Int} (h : 1 ≤ m ∧ m ≤ 2147483647) (hd : (r % m - c.1) % (Int.gcd c.2 m : Int) = 0) (hl : ¬ 2147483647 / (m / (Int.gcd c.2 m : Int)) < c.2) :
    ∃ x, crtStep c r m = .ok (x, c.2 * (m / (Int.gcd c.2 m : Int))) := ⟨_, crtStep_ok h hd hl⟩
theorem crt_two {d o : Int} {c m : Nat} (c1 : 1 ≤ c) (c2 : c ≤ 120) (m1 : 1 ≤ m) (m2 : m ≤ 120) (hd : ((Nat.gcd c m : Nat) : Int) ∣ o - d) :
    ∃ R M : Int, crt (0, 1) [(d, (c : Int)), (o, (m : Int))] = .ok (R, M) ∧ 0 ≤ R ∧ R < M ∧ M ≤ 14400 ∧ (c : Int) ∣ R - d ∧ (m : Int) ∣ R - o := by
  have g1 : (Int.gcd 1 (c : Int) : Int) = 1 := by rw [Int.one_gcd]; rfl
  obtain ⟨x1, e1⟩ := crtStep_ex (c := (0, 1)) (r := d) (m := c) ⟨by omega, by omega⟩ (by
    show _ % (Int.gcd 1 (c : Int) : Int) = 0
    rw [g1, Int.emod_one]) (by
    show ¬ 2147483647 / ((c : Int) / (Int.gcd 1 (c : Int) : Int)) < 1
    rw [g1, Int.ediv_one]
    have := (Int.le_ediv_iff_mul_le (a := 1) (b := 2147483647) (c := (c : Int)) (by omega)).2 (by omega)
    omega)
  have e1 : crtStep (0, 1) d c = .ok (x1, (1 : Int) * ((c : Int) / (Int.gcd 1 (c : Int) : Int))) := e1
  rw [g1, Int.ediv_one, Int.one_mul] at e1
  obtain ⟨s1, _, _, _, _, s2⟩ := crtStep_sound ⟨by decide, by decide, by decide⟩ e1
  have s2 : (c : Int) ∣ x1 - d := s2
  have gg : (Int.gcd (c : Int) (m : Int) : Int) = ((Nat.gcd c m : Nat) : Int) := rfl
  have hg : 0 < Nat.gcd c m := Nat.gcd_pos_of_pos_left _ (by omega)
  have gc : ((Nat.gcd c m : Nat) : Int) ∣ (c : Int) := Int.natCast_dvd_natCast.2 (Nat.gcd_dvd_left _ _)
  have gm : ((Nat.gcd c m : Nat) : Int) ∣ (m : Int) := Int.natCast_dvd_natCast.2 (Nat.gcd_dvd_right _ _)
  obtain ⟨q1, q2⟩ := div_pos_le (m := (m : Int)) (G := ((Nat.gcd c m : Nat) : Int)) (by omega) (by omega) gm
  obtain ⟨x2, e2⟩ := crtStep_ex (c := (x1, (c : Int))) (r := o) (m := m) ⟨by omega, by omega⟩ (by
    show (o % (m : Int) - x1) % ((Nat.gcd c m : Nat) : Int) = 0
    refine Int.emod_eq_zero_of_dvd ?_
    have h1 : ((Nat.gcd c m : Nat) : Int) ∣ o % (m : Int) - o := by
      have h := Int.mul_ediv_add_emod o (m : Int)
      have h3 : o % (m : Int) - o = (m : Int) * (-(o / (m : Int))) := by rw [Int.mul_neg]; omega
      rw [h3]
      exact Int.dvd_trans gm ⟨_, rfl⟩
    have h2 := Int.dvd_sub (Int.dvd_add h1 hd) (Int.dvd_trans gc s2)
    rwa [show o % (m : Int) - o + (o - d) - (x1 - d) = o % (m : Int) - x1 by omega] at h2) (by
    show ¬ 2147483647 / ((m : Int) / ((Nat.gcd c m : Nat) : Int)) < (c : Int)
    have h1 : (c : Int) * ((m : Int) / ((Nat.gcd c m : Nat) : Int)) ≤ 120 * 120 := Int.mul_le_mul (by omega) (by omega) (by omega) (by omega)
    have := (Int.le_ediv_iff_mul_le (a := (c : Int)) (b := 2147483647) (c := (m : Int) / ((Nat.gcd c m : Nat) : Int)) q1).2 (by omega)
    omega)
  have e2 : crtStep (x1, (c : Int)) o m = .ok (x2, (c : Int) * ((m : Int) / ((Nat.gcd c m : Nat) : Int))) := e2
  have hc : CrtOk (x1, (c : Int)) := s1
  obtain ⟨t1, _, t3, _, _, t6⟩ := crtStep_sound hc e2
  have t3 : (c : Int) ∣ x2 - x1 := t3
  refine ⟨x2, _, ?_, t1.1, t1.2.1, ?_, ?_, t6⟩
  · rw [crt, e1]
    show (match crtStep (x1, (c : Int)) o m with | .ok c' => crt c' [] | .error e => .error e) = _
    rw [e2]
    rfl
  · show (c : Int) * ((m : Int) / ((Nat.gcd c m : Nat) : Int)) ≤ 14400
    exact Int.mul_le_mul (c := 120) (d := 120) (by omega) (by omega) (by omega) (by omega)
  · have := Int.dvd_add t3 s2
    rwa [show x2 - x1 + (x1 - d) = x2 - d by omega] at this
structure YyOk (N n d c : Nat) (R M : Int) : Prop where
  e : crtOut (crt (0, 1) [((d : Int), (c : Int)), (((n / d : Nat) : Int), ((N / c : Nat) : Int))]) = (R, M, 0)
  r0 : 0 ≤ R
  r1 : R < M
  m1 : M ≤ 14400
  y : (yyZ N n d c : Int) = R + M
  yc : (c : Int) ∣ (yyZ N n d c : Int) - (d : Int)
  ym : ((N / c : Nat) : Int) ∣ (yyZ N n d c : Int) - ((n / d : Nat) : Int)
theorem yy_ok {N n d c : Nat} (h1 : 1 ≤ N) (h2 : N ≤ 120) (hc : c ∣ N) (hd : ((Nat.gcd c (N / c) : Nat) : Int) ∣ ((n / d : Nat) : Int) - (d : Int)) : ∃ R M : Int, YyOk N n d c R M := by
  have c1 : 1 ≤ c := Nat.pos_of_dvd_of_pos hc (by omega)
  have c2 : c ≤ N := Nat.le_of_dvd (by omega) hc
  have m1 : 1 ≤ N / c := Nat.div_pos c2 (by omega)
  have m2 : N / c ≤ 120 := Nat.le_trans (Nat.div_le_self _ _) h2
  obtain ⟨R, M, e, r0, r1, hM, a, b⟩ := crt_two c1 (by omega) m1 m2 hd
  have e' : crtOut (crt (0, 1) [((d : Int), (c : Int)), (((n / d : Nat) : Int), ((N / c : Nat) : Int))]) = (R, M, 0) := by rw [e]; rfl
  obtain ⟨_, _, w⟩ := crt_final e
  have w1 := (w 0 _ _ rfl).2.2.1
  have w2 := (w 1 _ _ rfl).2.2.1
  have y : (yyZ N n d c : Int) = R + M := by
    unfold yyZ
    rw [e']
    show ((R + M).toNat : Int) = R + M
    omega
  refine ⟨R, M, e', r0, r1, hM, y, ?_, ?_⟩
  · rw [y, show R + M - (d : Int) = R - d + M by omega]
    exact Int.dvd_add a (Int.dvd_of_emod_eq_zero w1)
  · rw [y, show R + M - ((n / d : Nat) : Int) = R - ((n / d : Nat) : Int) + M by omega]
    exact Int.dvd_add b (Int.dvd_of_emod_eq_zero w2)
theorem YyOk.bd {N n d c : Nat} {R M : Int} (h : YyOk N n d c R M) : 1 ≤ yyZ N n d c ∧ yyZ N n d c ≤ 28800 := by
  obtain ⟨_, r0, r1, m1, y, _, _⟩ := h
  omega
theorem cop_of {y d c : Nat} (h : (c : Int) ∣ (y : Int) - (d : Int)) (hg : Nat.gcd d c = 1) : Nat.gcd y c = 1 := by
  have k : ((Nat.gcd y c : Nat) : Int) ∣ (d : Int) := by
    have h1 : ((Nat.gcd y c : Nat) : Int) ∣ (y : Int) := Int.natCast_dvd_natCast.2 (Nat.gcd_dvd_left _ _)
    have h2 : ((Nat.gcd y c : Nat) : Int) ∣ (c : Int) := Int.natCast_dvd_natCast.2 (Nat.gcd_dvd_right _ _)
    have := Int.dvd_sub h1 (Int.dvd_trans h2 h)
    rwa [show (y : Int) - ((y : Int) - (d : Int)) = d by omega] at this
  have h3 := Nat.dvd_gcd (Int.natCast_dvd_natCast.1 k) (Nat.gcd_dvd_right y c)
  rw [hg] at h3
  exact Nat.eq_one_of_dvd_one h3
theorem cop_sub {a b N : Nat} (h : Nat.gcd a N = 1) (hb : b ∣ a) : Nat.gcd b N = 1 := by
  have h1 : Nat.gcd b N ∣ Nat.gcd a N := Nat.dvd_gcd (Nat.dvd_trans (Nat.gcd_dvd_left _ _) hb) (Nat.gcd_dvd_right _ _)
  rw [h] at h1
  exact Nat.eq_one_of_dvd_one h1
theorem cop_subr {a c N : Nat} (h : Nat.gcd a N = 1) (hc : c ∣ N) : Nat.gcd a c = 1 := by
  have h1 : Nat.gcd a c ∣ Nat.gcd a N := Nat.dvd_gcd (Nat.gcd_dvd_left _ _) (Nat.dvd_trans (Nat.gcd_dvd_right _ _) hc)
  rw [h] at h1
  exact Nat.eq_one_of_dvd_one h1
theorem unit_y {N n d c y : Nat} (hn : Nat.gcd n N = 1) (hd : d ∣ n) (hc : c ∣ N) (yc : (c : Int) ∣ (y : Int) - (d : Int)) (ym : ((N / c : Nat) : Int) ∣ (y : Int) - ((n / d : Nat) : Int)) : Nat.gcd y N = 1 := by
  have h1 := cop_of yc (cop_subr (cop_sub hn hd) hc)
  have h2 := cop_of ym (cop_subr (cop_sub hn (Nat.div_dvd_of_dvd hd)) (Nat.div_dvd_of_dvd hc))
  have h3 : Nat.gcd y (c * (N / c)) = 1 := Nat.Coprime.mul_right h1 h2
  rwa [Nat.mul_div_cancel' hc] at h3
theorem lcm_dvd' {c m : Nat} {z : Int} (h1 : (c : Int) ∣ z) (h2 : (m : Int) ∣ z) : ((c * m / Nat.gcd c m : Nat) : Int) ∣ z := by
  have e : c * m / Nat.gcd c m = Nat.lcm c m := rfl
  rw [e]
  exact Int.ofNat_dvd_left.2 (Nat.lcm_dvd (Int.ofNat_dvd_left.1 h1) (Int.ofNat_dvd_left.1 h2))
theorem hin_chi {N n d c y : Nat} {Δ : Int} (hN : 1 ≤ N) (h2 : N ≤ 120) (z : Δ ≠ 0) (h4 : Δ % 4 = 0 ∨ Δ % 4 = 1) (dv : Δ.natAbs ∣ N) (hn : Nat.gcd n N = 1) (hd : d ∣ n) (hc : c ∣ N) (hC : hinC N Δ n d c)
    (y1 : 1 ≤ y) (yc : (c : Int) ∣ (y : Int) - (d : Int)) (ym : ((N / c : Nat) : Int) ∣ (y : Int) - ((n / d : Nat) : Int)) : chiZ N Δ (yyZ N n d c) = jac Δ y := by
  obtain ⟨R, M, ok⟩ := yy_ok hN h2 hc hC.2
  have u := unit_y hn hd hc ok.yc ok.ym
  have b := ok.bd
  unfold chiZ
  rw [if_pos u]
  have c1 : 1 ≤ c := Nat.pos_of_dvd_of_pos hc (by omega)
  have q1 : (c : Int) ∣ (yyZ N n d c : Int) - (y : Int) := by
    have := Int.dvd_sub ok.yc yc
    rwa [show (yyZ N n d c : Int) - (d : Int) - ((y : Int) - (d : Int)) = (yyZ N n d c : Int) - (y : Int) by omega] at this
  have q2 : ((N / c : Nat) : Int) ∣ (yyZ N n d c : Int) - (y : Int) := by
    have := Int.dvd_sub ok.ym ym
    rwa [show (yyZ N n d c : Int) - ((n / d : Nat) : Int) - ((y : Int) - ((n / d : Nat) : Int)) = (yyZ N n d c : Int) - (y : Int) by omega] at this
  have q3 := lcm_dvd' q1 q2
  rw [Nat.mul_div_cancel' hc] at q3
  have hg : 0 < Nat.gcd c (N / c) := Nat.gcd_pos_of_pos_left _ c1
  have q4 : Δ.natAbs ∣ N / Nat.gcd c (N / c) := by
    obtain ⟨s, hs⟩ := dv
    obtain ⟨r, hr⟩ := Nat.dvd_of_mod_eq_zero hC.1
    have hz : 0 < Δ.natAbs := by omega
    rw [hs, Nat.mul_div_cancel_left _ hz] at hr
    rw [hs] at hg ⊢
    generalize Nat.gcd c (Δ.natAbs * s / c) = g at *
    rw [hr, show Δ.natAbs * (g * r) = g * (Δ.natAbs * r) by rw [← Nat.mul_assoc, Nat.mul_comm Δ.natAbs g, Nat.mul_assoc], Nat.mul_div_cancel_left _ hg]
    exact ⟨r, rfl⟩
  refine jac_cong z h4 q4 b.1 y1 ?_
  have q5 := Int.emod_emod_of_dvd
  have q6 := (Int.emod_eq_emod_iff_emod_sub_eq_zero (m := (yyZ N n d c : Int)) (n := ((N / Nat.gcd c (N / c) : Nat) : Int)) (k := (y : Int))).2 (Int.emod_eq_zero_of_dvd q3)
  exact_mod_cast q6
def sqC (n : Nat) : Nat → Nat
  | 0 => 0
  | m + 1 => if (m + 1) * (m + 1) < n then m + 1 else sqC n m
def rtN (n : Nat) : Nat := sqC n 11 + 1
theorem sqC_spec {n : Nat} (hn : 1 ≤ n) : ∀ m, sqC n m * sqC n m < n ∧ sqC n m ≤ m ∧ (sqC n m < m → n ≤ (sqC n m + 1) * (sqC n m + 1))
  | 0 => ⟨by show 0 * 0 < n; omega, Nat.le_refl _, fun h => absurd h (Nat.lt_irrefl _)⟩
  | m + 1 => by
    unfold sqC
    by_cases h : (m + 1) * (m + 1) < n
    · rw [if_pos h]
      exact ⟨h, Nat.le_refl _, fun x => absurd x (Nat.lt_irrefl _)⟩
    · rw [if_neg h]
      obtain ⟨a, b, c⟩ := sqC_spec hn m
      refine ⟨a, by omega, fun _ => ?_⟩
      by_cases e : sqC n m < m
      · exact c e
      · have : sqC n m = m := by omega
        rw [this]
        omega
theorem rtN_spec {n : Nat} (h1 : 1 ≤ n) (h2 : n ≤ 128) : 1 ≤ rtN n ∧ rtN n ≤ 12 ∧ n ≤ rtN n * rtN n ∧ ∀ m, m < rtN n → m * m < n := by
  obtain ⟨a, b, c⟩ := sqC_spec h1 11
  refine ⟨Nat.succ_pos _, by unfold rtN; omega, ?_, fun m hm => ?_⟩
  · unfold rtN
    by_cases e : sqC n 11 < 11
    · exact c e
    · have : sqC n 11 = 11 := by omega
      rw [this]
      omega
  · unfold rtN at hm
    have := Nat.mul_le_mul (show m ≤ sqC n 11 by omega) (show m ≤ sqC n 11 by omega)
    omega
def mainN (N k : Nat) (Δ : Int) (n : Nat) : Int := if rtN n * rtN n = n then mainZ N k Δ (rtN n) else 0
def sigN (n : Nat) : Int := sumJ (fun i => (dvG n i : Int)) (dvs n).length
def wtZ (k : Nat) (Δ : Int) (n : Nat) : Int := if k = 2 ∧ Δ = 1 then sigN n else 0
def T12 (N k : Nat) (Δ : Int) (n : Nat) : Int := mainN N k Δ n - ellZ N k Δ n - 6 * hypZ N k Δ n (dvs n).length + 12 * wtZ k Δ n
end HP

/- The trace formula, to be reckoned: the hyperbolic term; all of it. -/
namespace HP
def sumM (f : Nat → Int) : List Nat → Int
  | [] => 0
  | x :: l => f x + sumM f l
theorem sumJ_front {f : Nat → Int} : ∀ m, sumJ f (m + 1) = f 0 + sumJ (fun i => f (i + 1)) m
  | 0 => by show 0 + f 0 = f 0 + 0; omega
  | m + 1 => by
    show sumJ f (m + 1) + f (m + 1) = f 0 + (sumJ (fun i => f (i + 1)) m + f (m + 1))
    rw [sumJ_front m]
    omega
theorem sumJ_list {f : Nat → Int} : ∀ l : List Nat, sumJ (fun i => f (l.getD i 0)) l.length = sumM f l
  | [] => rfl
  | x :: l => by
    show sumJ (fun i => f ((x :: l).getD i 0)) (l.length + 1) = _
    rw [sumJ_front, sumM, ← sumJ_list l]
    rfl
theorem sumM_congr {f g : Nat → Int} : ∀ {l : List Nat}, (∀ x ∈ l, f x = g x) → sumM f l = sumM g l
  | [], _ => rfl
  | x :: l, h => by rw [sumM, sumM, h x (List.mem_cons_self ..), sumM_congr fun y hy => h y (List.mem_cons_of_mem _ hy)]
def srch (c m d o : Nat) : Nat → Nat
  | 0 => d
  | j + 1 => bif Nat.beq ((d + c * j) % m) (o % m) then d + c * j else srch c m d o j
theorem srch_spec {c m d o : Nat} : ∀ {j : Nat}, (∃ i, i < j ∧ (d + c * i) % m = o % m) → (∃ q, srch c m d o j = d + c * q) ∧ srch c m d o j % m = o % m
  | 0, ⟨i, hi, _⟩ => absurd hi (Nat.not_lt_zero i)
  | j + 1, ⟨i, hi, h⟩ => by
    unfold srch
    by_cases e : (d + c * j) % m = o % m
    · rw [beq_t e]
      exact ⟨⟨j, rfl⟩, e⟩
    · rw [beq_f e]
      refine srch_spec (j := j) ⟨i, ?_, h⟩
      by_cases k : i = j
      · subst k; exact absurd h e
      · omega
theorem srch_of {c m d o : Nat} {R : Int} (m1 : 1 ≤ m) (h1 : (c : Int) ∣ R - d) (h2 : (m : Int) ∣ R - o) : ∃ i, i < m ∧ (d + c * i) % m = o % m := by
  obtain ⟨q, hq⟩ := h1
  refine ⟨(q % (m : Int)).toNat, ?_, ?_⟩
  · have := Int.emod_lt_of_pos q (show (0 : Int) < m by omega)
    have := Int.emod_nonneg q (show (m : Int) ≠ 0 by omega)
    omega
  · have h0 := Int.emod_nonneg q (show (m : Int) ≠ 0 by omega)
    have key : (m : Int) ∣ ((d + c * (q % (m : Int)).toNat : Nat) : Int) - (o : Int) := by
      have e : ((d + c * (q % (m : Int)).toNat : Nat) : Int) = R - (m : Int) * (c * (q / (m : Int))) := by
        have e1 : (((q % (m : Int)).toNat : Nat) : Int) = q % (m : Int) := Int.toNat_of_nonneg h0
        have e2 := Int.mul_ediv_add_emod q (m : Int)
        have e3 : (c : Int) * q = c * ((m : Int) * (q / (m : Int))) + c * (q % (m : Int)) := by rw [← Int.mul_add, e2]
        rw [Int.natCast_add, Int.natCast_mul, e1]
        have e4 : (m : Int) * (c * (q / (m : Int))) = c * ((m : Int) * (q / (m : Int))) := by rw [← Int.mul_assoc, Int.mul_comm (m : Int) c, Int.mul_assoc]
        rw [e4]
        omega
      rw [e, show R - (m : Int) * (c * (q / (m : Int))) - (o : Int) = R - o - (m : Int) * (c * (q / (m : Int))) by omega]
      exact Int.dvd_sub h2 ⟨_, rfl⟩
    have := (Int.emod_eq_emod_iff_emod_sub_eq_zero (m := ((d + c * (q % (m : Int)).toNat : Nat) : Int)) (n := (m : Int)) (k := (o : Int))).2 (Int.emod_eq_zero_of_dvd key)
    exact_mod_cast this
def redN (N y : Nat) : Nat := bif Nat.beq (y % N) 0 then N else y % N
theorem redN_spec {N y : Nat} (hN : 1 ≤ N) : 1 ≤ redN N y ∧ redN N y ≤ N ∧ redN N y % N = y % N := by
  have hl := Nat.mod_lt y (show 0 < N by omega)
  unfold redN
  by_cases h : y % N = 0
  · rw [beq_t h]
    exact ⟨hN, Nat.le_refl _, by rw [h]; exact Nat.mod_self N⟩
  · rw [beq_f h]
    show 1 ≤ y % N ∧ y % N ≤ N ∧ y % N % N = y % N
    exact ⟨by omega, by omega, Nat.mod_mod _ _⟩
theorem mod_dvd_sub {a b n : Nat} (h : a % n = b % n) : (n : Int) ∣ (a : Int) - (b : Int) := by
  refine Int.dvd_of_emod_eq_zero ((Int.emod_eq_emod_iff_emod_sub_eq_zero (m := (a : Int)) (n := (n : Int)) (k := (b : Int))).1 ?_)
  exact_mod_cast h
def hinF (N : Nat) (Δ : Int) (n d c : Nat) : Int :=
  let g := Nat.gcd c (N / c)
  bif Nat.beq (N / Δ.natAbs % g) 0 && Nat.beq (n / d % g) (d % g) then prodC phiF g * jacK Δ (redN N (srch c (N / c) d (n / d) (N / c))) else 0
theorem hinF_eq {N n d c : Nat} {Δ : Int} (hN : 1 ≤ N) (h2 : N ≤ 120) (z : Δ ≠ 0) (h4 : Δ % 4 = 0 ∨ Δ % 4 = 1) (dv : Δ.natAbs ∣ N) (hn : Nat.gcd n N = 1) (hn0 : 1 ≤ n) (hd : d ∣ n) (hc : c ∣ N) : hinF N Δ n d c = hinT N Δ n d c := by
  have c1 : 1 ≤ c := Nat.pos_of_dvd_of_pos hc (by omega)
  have d1 : 1 ≤ d := Nat.pos_of_dvd_of_pos hd (by omega)
  have hg : 0 < Nat.gcd c (N / c) := Nat.gcd_pos_of_pos_left _ c1
  unfold hinF hinT
  simp only
  by_cases hC : hinC N Δ n d c
  · have e1 : N / Δ.natAbs % Nat.gcd c (N / c) = 0 := hC.1
    have e2 : n / d % Nat.gcd c (N / c) = d % Nat.gcd c (N / c) := by
      have := (Int.emod_eq_emod_iff_emod_sub_eq_zero (m := ((n / d : Nat) : Int)) (n := ((Nat.gcd c (N / c) : Nat) : Int)) (k := (d : Int))).2 (Int.emod_eq_zero_of_dvd hC.2)
      exact_mod_cast this
    rw [if_pos hC, beq_t e1, beq_t e2]
    show prodC phiF _ * jacK _ _ = _
    have gle : Nat.gcd c (N / c) ≤ 120 := Nat.le_trans (Nat.le_of_dvd c1 (Nat.gcd_dvd_left _ _)) (Nat.le_trans (Nat.le_of_dvd (by omega) hc) h2)
    rw [← phi_C hg gle]
    congr 1
    obtain ⟨R, M, ok⟩ := yy_ok hN h2 hc hC.2
    have m1 : 1 ≤ N / c := Nat.div_pos (Nat.le_of_dvd (by omega) hc) (by omega)
    obtain ⟨⟨q, hq⟩, hs⟩ := srch_spec (srch_of (R := (yyZ N n d c : Int)) m1 ok.yc ok.ym)
    obtain ⟨r1, r2, r3⟩ := redN_spec (N := N) (y := srch c (N / c) d (n / d) (N / c)) hN
    have y1 : 1 ≤ srch c (N / c) d (n / d) (N / c) := by rw [hq]; omega
    rw [← jac_K r1 (by omega), jac_cong z h4 dv r1 y1 r3]
    refine (hin_chi hN h2 z h4 dv hn hd hc hC y1 ?_ (mod_dvd_sub hs)).symm
    rw [hq]
    exact ⟨q, by rw [Int.natCast_add, Int.natCast_mul]; omega⟩
  · rw [if_neg hC]
    have : (Nat.beq (N / Δ.natAbs % Nat.gcd c (N / c)) 0 && Nat.beq (n / d % Nat.gcd c (N / c)) (d % Nat.gcd c (N / c))) = false := by
      rw [Bool.eq_false_iff]
      intro h
      rw [Bool.and_eq_true] at h
      exact hC ⟨Nat.eq_of_beq_eq_true h.1, mod_dvd_sub (Nat.eq_of_beq_eq_true h.2)⟩
    rw [this]
    rfl
def tabH (N : Nat) (Δ : Int) (n : Nat) (cs : List Nat) : List Nat → List (Nat × Int)
  | [] => []
  | d :: l => (min d (n / d), sumM (hinF N Δ n d) cs) :: tabH N Δ n cs l
def hypP (k : Nat) : List (Nat × Int) → Int
  | [] => 0
  | (b, h) :: l => (b : Int) ^ (k - 1) * h + hypP k l
theorem dvs_le {n d : Nat} (h : d ∈ dvs n) (_hn : 1 ≤ n) : d ∣ n := by
  unfold dvs at h
  rw [List.mem_filter] at h
  exact (isDv_iff.1 h.2).2
theorem hypP_eq {N k n : Nat} {Δ : Int} (hN : 1 ≤ N) (h2 : N ≤ 120) (z : Δ ≠ 0) (h4 : Δ % 4 = 0 ∨ Δ % 4 = 1) (dv : Δ.natAbs ∣ N) (hn : Nat.gcd n N = 1) (hn0 : 1 ≤ n) : ∀ l : List Nat, (∀ d ∈ l, d ∣ n) → hypP k (tabH N Δ n (dvs N) l) = sumM (hypT N k Δ n) l
  | [], _ => rfl
  | d :: l, h => by
    rw [tabH, hypP, sumM, hypP_eq hN h2 z h4 dv hn hn0 l fun x hx => h x (List.mem_cons_of_mem _ hx)]
    congr 1
    unfold hypT hinZ
    congr 1
    have e : sumJ (fun j => hinT N Δ n d (dvG N j)) (dvs N).length = sumM (hinT N Δ n d) (dvs N) := sumJ_list (f := hinT N Δ n d) (dvs N)
    rw [e]
    exact sumM_congr fun c hc => hinF_eq hN h2 z h4 dv hn hn0 (h d (List.mem_cons_self ..)) (dvs_le hc hN)
theorem hypZ_P {N k n : Nat} {Δ : Int} (hN : 1 ≤ N) (h2 : N ≤ 120) (z : Δ ≠ 0) (h4 : Δ % 4 = 0 ∨ Δ % 4 = 1) (dv : Δ.natAbs ∣ N) (hn : Nat.gcd n N = 1) (hn0 : 1 ≤ n) : hypZ N k Δ n (dvs n).length = hypP k (tabH N Δ n (dvs N) (dvs n)) := by
  rw [hypP_eq hN h2 z h4 dv hn hn0 (dvs n) fun d hd => dvs_le hd hn0]
  exact sumJ_list (f := hypT N k Δ n) (dvs n)
def mainP (N k : Nat) (Δ : Int) (n : Nat) : Int := bif Nat.beq (rtN n * rtN n) n then (bif Nat.beq (Nat.gcd (rtN n) N) 1 then jacK Δ (rtN n) else 0) * ((k : Int) - 1) * prodC psiF N * (rtN n : Int) ^ (k - 2) else 0
theorem mainP_eq {N k n : Nat} {Δ : Int} (hN : 1 ≤ N) (h2 : N ≤ 120) (n1 : 1 ≤ n) (n2 : n ≤ 128) : mainN N k Δ n = mainP N k Δ n := by
  obtain ⟨r1, r2, _⟩ := rtN_spec n1 n2
  unfold mainN mainP mainZ
  by_cases h : rtN n * rtN n = n
  · rw [if_pos h, beq_t h, psi_C hN h2, chiZ_K r1 (by omega)]
    by_cases hg : Nat.gcd (rtN n) N = 1
    · rw [if_pos hg, beq_t hg]
      rfl
    · rw [if_neg hg, beq_f hg]
      rfl
  · rw [if_neg h, beq_f h]
    rfl
def sigP (n : Nat) : Int := sumM (fun d => (d : Int)) (dvs n)
theorem sigP_eq (n : Nat) : sigN n = sigP n := sumJ_list (f := fun d => (d : Int)) (dvs n)
def totP (N k : Nat) (Δ : Int) (n : Nat) (A : List (Int × Int)) (H : List (Nat × Int)) : Int :=
  mainP N k Δ n - ellP k n A - 6 * hypP k H + (bif Nat.beq k 2 && decide (Δ = 1) then 12 * sigP n else 0)
theorem T12_P {N k n : Nat} {Δ : Int} (hN : 1 ≤ N) (h2 : N ≤ 120) (z : Δ ≠ 0) (h4 : Δ % 4 = 0 ∨ Δ % 4 = 1) (dv : Δ.natAbs ∣ N) (hn : Nat.gcd n N = 1) (n1 : 1 ≤ n) (n2 : n ≤ 128) :
    T12 N k Δ n = totP N k Δ n (tabA N (chiR N Δ N) n (tabT n (2 * n + 3))) (tabH N Δ n (dvs N) (dvs n)) := by
  unfold T12 totP wtZ
  rw [mainP_eq hN h2 n1 n2, ellZ_P hN h2 n1 n2, hypZ_P hN h2 z h4 dv hn n1, sigP_eq]
  congr 1
  by_cases hk : k = 2
  · rw [beq_t hk]
    by_cases hD : Δ = 1
    · rw [if_pos ⟨hk, hD⟩, decide_eq_true hD]; rfl
    · rw [if_neg fun h => hD h.2, decide_eq_false hD]; rfl
  · rw [beq_f hk, if_neg fun h => hk h.1]; rfl
end HP

