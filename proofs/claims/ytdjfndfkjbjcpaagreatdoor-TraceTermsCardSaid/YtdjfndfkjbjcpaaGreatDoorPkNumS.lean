/- Own texts joined: NumS, NumT, NumU, NumV, NumQ, NumR, NumP. -/
import Derived.Test.YtdjfndfkjbjcpaaGreatDoorNumA
import Derived.Test.YtdjfndfkjbjcpaaGreatDoorNumD
/- Dedekind sums: reciprocity, by counting. -/
namespace HP
theorem sumN_mul (a : Nat) (f : Nat → Nat) : ∀ n, sumN (fun i => a * f i) n = a * sumN f n
  | 0 => (Nat.mul_zero a).symm
  | n + 1 => by rw [sumN_succ, sumN_succ, sumN_mul a f n, Nat.mul_add]
theorem sumN_shift (f : Nat → Nat) : ∀ n, sumN f (n + 1) = f 0 + sumN (fun i => f (i + 1)) n
  | 0 => by rw [sumN_succ, sumN_zero, sumN_zero]; omega
  | n + 1 => by rw [sumN_succ, sumN_shift f n, sumN_succ]; omega
theorem sum1 : ∀ n, 2 * sumN (fun i => i) n + n = n * n
  | 0 => rfl
  | n + 1 => by
    have := sum1 n
    rw [sumN_succ]
    grind
theorem sum2 : ∀ n, 6 * sumN (fun i => i * i) n + 3 * (n * n) = n * (2 * n * n + 1)
  | 0 => rfl
  | n + 1 => by
    have := sum2 n
    rw [sumN_succ]
    grind
theorem unit_perm {h k : Nat} (hk : 0 < k) (hc : Nat.gcd h k = 1) (f : Nat → Nat) : sumN (fun i => f (h * i % k)) k = sumN f k :=
  sumN_perm f k (fun i => h * i % k) (fun i _ => Nat.mod_lt _ hk) fun i j hi hj e => by
    have hd : ∀ a b : Nat, a < k → b < k → a ≤ b → h * a % k = h * b % k → a = b := fun a b ha hb hab e => by
      have h1 : k ∣ h * b - h * a := Nat.dvd_of_mod_eq_zero (Nat.sub_mod_eq_zero_of_mod_eq e.symm)
      rw [← Nat.mul_sub] at h1
      have h2 : k ∣ b - a := Nat.Coprime.dvd_of_dvd_mul_left (Nat.Coprime.symm hc) h1
      rcases Nat.eq_zero_or_pos (b - a) with h3 | h3
      · omega
      · have := Nat.le_of_dvd h3 h2; omega
    rcases Nat.le_total i j with hij | hij
    · exact hd i j hi hj hij e
    · exact (hd j i hj hi hij e.symm).symm
def dE (h k : Nat) : Nat := sumN (fun i => i * (h * i % k)) k
def dA (h k : Nat) : Nat := sumN (fun i => i * (h * i / k)) k
def dF1 (h k : Nat) : Nat := sumN (fun i => h * i / k) k
def dF2 (h k : Nat) : Nat := sumN (fun i => h * i / k * (h * i / k)) k
def sq2 (k : Nat) : Nat := sumN (fun i => i * i) k
def sq1 (k : Nat) : Nat := sumN (fun i => i) k
theorem dE_dA (h k : Nat) : dE h k + k * dA h k = h * sq2 k := by
  unfold dE dA sq2
  rw [← sumN_mul, ← sumN_mul, ← sumN_add]
  refine sumN_congr _ _ _ fun i _ => ?_
  have := Nat.div_add_mod (h * i) k
  generalize h * i / k = q at *
  generalize h * i % k = r at *
  grind
theorem dF2_dA {h k : Nat} (hk : 0 < k) (hc : Nat.gcd h k = 1) : h * h * sq2 k + k * k * dF2 h k = sq2 k + 2 * h * k * dA h k := by
  have e : sq2 k = sumN (fun i => h * i % k * (h * i % k)) k := (unit_perm hk hc fun x => x * x).symm
  rw [show sq2 k + 2 * h * k * dA h k = sumN (fun i => h * i % k * (h * i % k)) k + 2 * h * k * dA h k by rw [← e]]
  unfold dF2 dA sq2
  rw [← sumN_mul, ← sumN_mul, ← sumN_mul, ← sumN_add, ← sumN_add]
  refine sumN_congr _ _ _ fun i _ => ?_
  have := Nat.div_add_mod (h * i) k
  generalize h * i / k = q at *
  generalize h * i % k = r at *
  grind
theorem dF1_sq {h k : Nat} (hk : 0 < k) (hc : Nat.gcd h k = 1) : h * sq1 k = k * dF1 h k + sq1 k := by
  have e : sq1 k = sumN (fun i => h * i % k) k := (unit_perm hk hc fun x => x).symm
  rw [show k * dF1 h k + sq1 k = k * dF1 h k + sumN (fun i => h * i % k) k by rw [← e]]
  unfold dF1 sq1
  rw [← sumN_mul, ← sumN_mul, ← sumN_add]
  exact sumN_congr _ _ _ fun i _ => (Nat.div_add_mod (h * i) k).symm
theorem tri_if (f : Nat) : ∀ H, f ≤ H → f * f + f = 2 * sumN (fun j => if j + 1 ≤ f then j + 1 else 0) H
  | 0, h => by obtain rfl : f = 0 := by omega
               rfl
  | H + 1, h => by
    rw [sumN_succ]
    by_cases e : f = H + 1
    · subst e
      rw [if_pos (Nat.le_refl _)]
      have h1 : sumN (fun j => if j + 1 ≤ H + 1 then j + 1 else 0) H = sumN (fun j => if j + 1 ≤ H then j + 1 else 0) H := sumN_congr _ _ _ fun j hj => by rw [if_pos (by omega), if_pos (by omega)]
      have := tri_if H H (Nat.le_refl _)
      rw [h1]
      grind
    · rw [if_neg (by omega), tri_if f H (by omega)]
      omega
theorem cnt_ge {h k : Nat} (hh : 0 < h) (hk : 0 < k) (hc : Nat.gcd h k = 1) {J : Nat} (hJ0 : 0 < J) (hJ : J < h) : sumN (fun i => if J ≤ h * i / k then 1 else 0) k + k * J / h = k - 1 := by
  have hg : k * J / h ≤ k - 1 := by
    have : k * J / h < k := Nat.div_lt_of_lt_mul (by rw [Nat.mul_comm h]; exact Nat.mul_lt_mul_of_pos_left hJ hk)
    omega
  obtain ⟨q, rfl⟩ : ∃ q, k = q + 1 := ⟨k - 1, by omega⟩
  have e1 : ∀ i, (if J ≤ h * i / (q + 1) then 1 else 0) + (if h * i ≤ (q + 1) * J then 1 else 0) = 1 + (if h * i = (q + 1) * J then 1 else 0) := fun i => by
    have := Nat.le_div_iff_mul_le (x := J) (y := h * i) (show 0 < q + 1 by omega)
    rw [Nat.mul_comm J] at this
    by_cases h1 : J ≤ h * i / (q + 1)
    · rw [if_pos h1]
      have := this.1 h1
      split <;> split <;> omega
    · rw [if_neg h1]
      have h2 : ¬ (q + 1) * J ≤ h * i := fun x => h1 (this.2 x)
      rw [if_pos (by omega), if_neg (by omega)]
  have e2 : ∀ i, i < q + 1 → (if J ≤ h * i / (q + 1) then 1 else 0) + (if h * i ≤ (q + 1) * J then 1 else 0) = 1 := fun i hi => by
    rw [e1 i, if_neg]
    intro e
    have h1 : h ∣ (q + 1) * J := ⟨i, e.symm⟩
    have h2 : h ∣ J := Nat.Coprime.dvd_of_dvd_mul_left hc h1
    have := Nat.le_of_dvd hJ0 h2
    omega
  have e3 : sumN (fun i => if J ≤ h * i / (q + 1) then 1 else 0) (q + 1) + sumN (fun i => if h * i ≤ (q + 1) * J then 1 else 0) (q + 1) = (q + 1) * 1 := by
    rw [← sumN_add, ← sumN_const 1 (q + 1)]
    exact sumN_congr _ _ _ e2
  rw [sumN_shift (fun i => if h * i ≤ (q + 1) * J then 1 else 0), Nat.mul_zero, if_pos (Nat.zero_le _), count_mul h ((q + 1) * J) hh q, Nat.min_eq_right (by simpa using hg)] at e3
  rw [Nat.add_sub_cancel]
  omega
theorem dF_dA {h k : Nat} (hh : 0 < h) (hk : 0 < k) (hc : Nat.gcd h k = 1) : dF2 h k + dF1 h k + 2 * dA k h = (k - 1) * (h * (h - 1)) := by
  obtain ⟨H, rfl⟩ : ∃ H, h = H + 1 := ⟨h - 1, by omega⟩
  have h1 : dF2 (H + 1) k + dF1 (H + 1) k = 2 * sumN (fun i => sumN (fun j => if j + 1 ≤ (H + 1) * i / k then j + 1 else 0) H) k := by
    unfold dF2 dF1
    rw [← sumN_add, ← sumN_mul]
    refine sumN_congr _ _ _ fun i hi => tri_if _ H ?_
    have : (H + 1) * i / k < H + 1 := Nat.div_lt_of_lt_mul (by rw [Nat.mul_comm k]; exact Nat.mul_lt_mul_of_pos_left hi (by omega))
    omega
  have h2 : sumN (fun i => sumN (fun j => if j + 1 ≤ (H + 1) * i / k then j + 1 else 0) H) k = sumN (fun j => (j + 1) * sumN (fun i => if j + 1 ≤ (H + 1) * i / k then 1 else 0) k) H := by
    rw [sumN_swap (fun i j => if j + 1 ≤ (H + 1) * i / k then j + 1 else 0)]
    refine sumN_congr _ _ _ fun j _ => ?_
    rw [← sumN_mul]
    refine sumN_congr _ _ _ fun i _ => ?_
    split
    · rw [Nat.mul_one]
    · rw [Nat.mul_zero]
  have h3 : dA k (H + 1) = sumN (fun j => (j + 1) * (k * (j + 1) / (H + 1))) H := by
    unfold dA
    rw [sumN_shift, Nat.zero_mul, Nat.zero_add]
  have h4 : sumN (fun j => (j + 1) * sumN (fun i => if j + 1 ≤ (H + 1) * i / k then 1 else 0) k) H + dA k (H + 1) = (k - 1) * sumN (fun j => j + 1) H := by
    rw [h3, ← sumN_add, ← sumN_mul]
    refine sumN_congr _ _ _ fun j hj => ?_
    rw [← Nat.mul_add, cnt_ge (by omega) hk hc (by omega) (by omega), Nat.mul_comm]
  have h5 : 2 * sumN (fun j => j + 1) H = (H + 1) * H := by
    have := sum1 (H + 1)
    rw [sumN_shift, Nat.zero_add] at this
    grind
  rw [h1, h2, Nat.add_sub_cancel, ← h5]
  have := congrArg (2 * ·) h4
  simp only [Nat.mul_add] at this
  rw [this]
  grind
def dN (h k : Nat) : Int := (h : Int) * (k - 1) * (2 * k - 1) - 6 * dA h k - 3 * sq1 k
theorem dN_E {h k : Nat} : (k : Int) * dN h k = 6 * dE h k - 3 * k * sq1 k := by
  have h1 := congrArg (fun n : Nat => (n : Int)) (dE_dA h k)
  have h2 := congrArg (fun n : Nat => (n : Int)) (sum2 k)
  have h3 : sumN (fun i => i * i) k = sq2 k := rfl
  rw [h3] at h2
  push_cast at h1 h2
  unfold dN
  grind
theorem f1_core {h k f t : Int} (h2 : h * t = k * f + t) (s2 : 2 * t + k = k * k) : k * (2 * f) = k * ((h - 1) * (k - 1)) := by grind
theorem rec_ring (h k a b f2 f q t t' : Int) : k * (2 * h * (h * (k - 1) * (2 * k - 1) - 6 * a - 3 * t) + 2 * k * (k * (h - 1) * (2 * h - 1) - 6 * b - 3 * t')) - k * (h * h + k * k + 1 - 3 * h * k) =
    -6 * (q + 2 * h * k * a - (h * h * q + k * k * f2)) - 3 * h * k * (2 * t + k - k * k) - 6 * k * k * (f2 + f + 2 * b - (k - 1) * (h * (h - 1))) - 3 * k * k * (2 * t' + h - h * h) - (h * h - 1) * (6 * q + 3 * (k * k) - k * (2 * k * k + 1)) + 3 * k * k * (2 * f - (h - 1) * (k - 1)) := by grind
theorem rec_core {h k a b f2 f q t t' : Int} (h1 : h * h * q + k * k * f2 = q + 2 * h * k * a) (h3 : f2 + f + 2 * b = (k - 1) * (h * (h - 1))) (s1 : 6 * q + 3 * (k * k) = k * (2 * k * k + 1)) (s2 : 2 * t + k = k * k) (s3 : 2 * t' + h = h * h) (f1 : 2 * f = (h - 1) * (k - 1)) :
    k * (2 * h * (h * (k - 1) * (2 * k - 1) - 6 * a - 3 * t) + 2 * k * (k * (h - 1) * (2 * h - 1) - 6 * b - 3 * t')) = k * (h * h + k * k + 1 - 3 * h * k) := by
  have e := rec_ring h k a b f2 f q t t'
  rw [← h1, h3, s1, s2, s3, f1] at e
  simp only [Int.sub_self, Int.mul_zero, Int.add_zero] at e
  exact Int.sub_eq_zero.1 e
theorem recip {h k : Nat} (hh : 0 < h) (hk : 0 < k) (hc : Nat.gcd h k = 1) : 2 * (h : Int) * dN h k + 2 * k * dN k h = h * h + k * k + 1 - 3 * h * k := by
  have h1 := congrArg (fun n : Nat => (n : Int)) (dF2_dA hk hc)
  have h2 := congrArg (fun n : Nat => (n : Int)) (dF1_sq hk hc)
  have h3 := congrArg (fun n : Nat => (n : Int)) (dF_dA hh hk hc)
  have s1 := congrArg (fun n : Nat => (n : Int)) (sum2 k)
  have s2 := congrArg (fun n : Nat => (n : Int)) (sum1 k)
  have s3 := congrArg (fun n : Nat => (n : Int)) (sum1 h)
  have e1 : sumN (fun i => i * i) k = sq2 k := rfl
  have e2 : sumN (fun i => i) k = sq1 k := rfl
  have e3 : sumN (fun i => i) h = sq1 h := rfl
  rw [e1] at s1
  rw [e2] at s2
  rw [e3] at s3
  push_cast at h1 h2 h3 s1 s2 s3
  have c1 : ((k - 1 : Nat) : Int) = k - 1 := by omega
  have c2 : ((h - 1 : Nat) : Int) = h - 1 := by omega
  rw [c1, c2] at h3
  have hk0 : (k : Int) ≠ 0 := by omega
  have f1 : 2 * (dF1 h k : Int) = (h - 1) * (k - 1) := Int.eq_of_mul_eq_mul_left hk0 (f1_core h2 s2)
  exact Int.eq_of_mul_eq_mul_left hk0 (rec_core h1 h3 s1 s2 s3 f1)
end HP

/- Dedekind sums of integers; Rademacher's function and its cocycle. -/
namespace HP
theorem dE_congr {h h' k : Nat} (e : h % k = h' % k) : dE h k = dE h' k := by
  unfold dE
  refine sumN_congr _ _ _ fun i _ => ?_
  rw [Nat.mul_mod h i k, e, ← Nat.mul_mod]
theorem dN_of_dE {h h' k : Nat} (hk : 0 < k) (e : dE h k = dE h' k) : dN h k = dN h' k := by
  apply Int.eq_of_mul_eq_mul_left (show (k : Int) ≠ 0 by omega)
  rw [dN_E, dN_E, e]
theorem dN_congr {h h' k : Nat} (hk : 0 < k) (e : h % k = h' % k) : dN h k = dN h' k := dN_of_dE hk (dE_congr e)
theorem not_dvd_mul {h k i : Nat} (hc : Nat.gcd h k = 1) (h0 : 0 < i) (hi : i < k) : h * i % k ≠ 0 := fun e => by
  have h1 : k ∣ i := Nat.Coprime.dvd_of_dvd_mul_left (Nat.Coprime.symm hc) (Nat.dvd_of_mod_eq_zero e)
  have := Nat.le_of_dvd h0 h1
  omega
theorem dE_neg {h h' k : Nat} (hk : 0 < k) (hc : Nat.gcd h k = 1) (e : (h + h') % k = 0) : dE h k + dE h' k = k * sq1 k := by
  unfold dE sq1
  rw [← sumN_add, ← sumN_mul]
  refine sumN_congr _ _ _ fun i hi => ?_
  rcases Nat.eq_zero_or_pos i with h0 | h0
  · subst h0; simp
  · have h1 : (h * i % k + h' * i % k) % k = 0 := by
      rw [← Nat.add_mod, ← Nat.add_mul, Nat.mul_mod, e, Nat.zero_mul, Nat.zero_mod]
    have h2 := not_dvd_mul hc h0 hi
    have h3 := Nat.mod_lt (h * i) hk
    have h4 := Nat.mod_lt (h' * i) hk
    generalize h * i % k = r at *
    generalize h' * i % k = r' at *
    have h5 : r + r' = k := by
      obtain ⟨q, hq⟩ := Nat.dvd_of_mod_eq_zero h1
      have hq1 : q = 1 := by
        rcases Nat.lt_or_ge q 2 with h | h
        · rcases Nat.eq_zero_or_pos q with h | h
          · rw [h] at hq; omega
          · omega
        · have : k * 2 ≤ k * q := Nat.mul_le_mul_left _ h
          omega
      rw [hq1] at hq
      omega
    rw [← Nat.mul_add, h5, Nat.mul_comm]
theorem dN_neg {h h' k : Nat} (hk : 0 < k) (hc : Nat.gcd h k = 1) (e : (h + h') % k = 0) : dN h' k = -dN h k := by
  have h1 := congrArg (fun n : Nat => (n : Int)) (dE_neg hk hc e)
  push_cast at h1
  apply Int.eq_of_mul_eq_mul_left (show (k : Int) ≠ 0 by omega)
  rw [Int.mul_neg, dN_E, dN_E]
  have h2 : (3 : Int) * k * sq1 k = 3 * (k * sq1 k) := by rw [Int.mul_assoc]
  rw [h2]
  omega
theorem dN_one (h : Nat) : dN h 1 = 0 := by
  have := dN_E (h := h) (k := 1)
  have h1 : dE h 1 = 0 := by show 0 + 0 * _ = 0; simp
  have h2 : sq1 1 = 0 := rfl
  rw [h1, h2] at this
  simpa using this
def dZ (d : Int) (k : Nat) : Int := dN (d % k).toNat k
theorem emod_toNat {d : Int} {k : Nat} (hk : 0 < k) : (((d % k).toNat : Nat) : Int) = d % k := by
  have := Int.emod_nonneg d (show (k : Int) ≠ 0 by omega)
  omega
theorem dZ_congr {d d' : Int} {k : Nat} (h : (k : Int) ∣ d - d') : dZ d k = dZ d' k := by
  unfold dZ
  rw [Int.emod_eq_emod_iff_emod_sub_eq_zero.2 (Int.emod_eq_zero_of_dvd h)]
theorem dZ_nat {h k : Nat} (hk : 0 < k) : dZ (h : Int) k = dN h k := by
  unfold dZ
  apply dN_congr hk
  have : ((h : Int) % k).toNat = h % k := by omega
  rw [this, Nat.mod_mod]
theorem gcd_emodZ (d : Int) (k : Nat) : Int.gcd (d % k) k = Int.gcd d k := by
  apply Nat.dvd_antisymm
  · refine Int.natCast_dvd_natCast.1 (Int.dvd_coe_gcd ?_ ?_)
    · have h1 := Int.gcd_dvd_left (d % k) k
      have h2 := Int.gcd_dvd_right (d % k) k
      have e := Int.mul_ediv_add_emod d k
      have h3 := Int.dvd_add (Int.dvd_mul_of_dvd_left h2 (c := d / k)) h1
      rwa [e] at h3
    · exact Int.gcd_dvd_right ..
  · refine Int.natCast_dvd_natCast.1 (Int.dvd_coe_gcd ?_ ?_)
    · have h1 := Int.gcd_dvd_left d k
      have h2 := Int.gcd_dvd_right d k
      have e := Int.mul_ediv_add_emod d k
      rw [show d % k = d - k * (d / k) by omega]
      exact Int.dvd_sub h1 (Int.dvd_mul_of_dvd_left h2)
    · exact Int.gcd_dvd_right ..
theorem sign_self (c : Int) : c.sign * c = c.natAbs := by
  rcases Int.lt_trichotomy c 0 with h | h | h
  · rw [Int.sign_eq_neg_one_of_neg h]; omega
  · subst h; rfl
  · rw [Int.sign_eq_one_of_pos h]; omega
theorem gcd_toNat {d : Int} {k : Nat} (hk : 0 < k) (hc : Int.gcd d k = 1) : Nat.gcd (d % k).toNat k = 1 := by
  have h1 : Int.gcd (d % k) k = 1 := by rw [gcd_emodZ]; exact hc
  rwa [← emod_toNat hk] at h1
theorem dZ_neg {d : Int} {k : Nat} (hk : 0 < k) (hc : Int.gcd d k = 1) : dZ (-d) k = -dZ d k := by
  unfold dZ
  apply dN_neg hk (gcd_toNat hk hc)
  have h1 := emod_toNat (d := d) hk
  have h2 := emod_toNat (d := -d) hk
  have h3 : (k : Int) ∣ (((d % k).toNat + (-d % k).toNat : Nat) : Int) := by
    rw [Int.natCast_add, h1, h2]
    have e1 := Int.mul_ediv_add_emod d k
    have e2 := Int.mul_ediv_add_emod (-d) k
    refine ⟨-(d / k) - (-d / k), ?_⟩
    rw [Int.mul_sub, Int.mul_neg]
    omega
  exact Nat.mod_eq_zero_of_dvd (Int.natCast_dvd_natCast.1 h3)
theorem dZ_recip {c d : Int} (hc : c ≠ 0) (hd : d ≠ 0) (hg : Int.gcd d c = 1) : 2 * d * dZ d c.natAbs - 2 * c * dZ (-c) d.natAbs = c * c + d * d + 1 - 3 * (c.sign * d.sign) * (c * d) := by
  have hk : 0 < c.natAbs := by omega
  have hl : 0 < d.natAbs := by omega
  have hgn : Nat.gcd d.natAbs c.natAbs = 1 := hg
  have r := recip hl hk hgn
  have e1 : d * dZ d c.natAbs = d.natAbs * dN d.natAbs c.natAbs := by
    rcases Int.lt_or_lt_of_ne hd with h | h
    · have e : d = -(d.natAbs : Int) := by omega
      have h1 := dZ_neg (d := (d.natAbs : Int)) hk hgn
      rw [← e, dZ_nat hk] at h1
      rw [h1, Int.mul_neg]
      have : (d.natAbs : Int) = -d := by omega
      rw [this, Int.neg_mul]
    · have e : (d.natAbs : Int) = d := by omega
      have h1 := dZ_nat (h := d.natAbs) hk
      rw [e] at h1
      rw [h1, e]
  have hgc : Int.gcd (c.natAbs : Int) d.natAbs = 1 := by rw [Int.gcd_natCast_natCast, Nat.gcd_comm]; exact hgn
  have e2 : c * dZ (-c) d.natAbs = -(c.natAbs * dN c.natAbs d.natAbs) := by
    rcases Int.lt_or_lt_of_ne hc with h | h
    · have e : (c.natAbs : Int) = -c := by omega
      have h1 := dZ_nat (h := c.natAbs) hl
      rw [e] at h1
      rw [h1, e, Int.neg_mul, Int.neg_neg]
    · have e : (c.natAbs : Int) = c := by omega
      have h1 := dZ_neg (d := (c.natAbs : Int)) hl hgc
      rw [dZ_nat hl, e] at h1
      rw [h1, e, Int.mul_neg]
  have e3 : c.sign * d.sign * (c * d) = c.natAbs * d.natAbs := by
    rw [show c.sign * d.sign * (c * d) = (c.sign * c) * (d.sign * d) by grind, sign_self, sign_self]
  have e4 : (c.natAbs : Int) * c.natAbs = c * c := Int.natAbs_mul_self
  have e5 : (d.natAbs : Int) * d.natAbs = d * d := Int.natAbs_mul_self
  rw [Int.mul_assoc 3, e3, Int.mul_assoc 2 d, e1, Int.mul_assoc 2 c, e2, ← e4, ← e5]
  rw [Int.mul_assoc 2, Int.mul_assoc 2, Int.mul_assoc 3, Int.mul_comm (d.natAbs : Int) (c.natAbs : Int)] at r
  omega
structure Mx where
  a : Int
  b : Int
  c : Int
  d : Int
def Mx.One (x : Mx) : Prop := x.a * x.d - x.b * x.c = 1
def Mx.mul (x y : Mx) : Mx := ⟨x.a * y.a + x.b * y.c, x.a * y.b + x.b * y.d, x.c * y.a + x.d * y.c, x.c * y.b + x.d * y.d⟩
theorem Mx.One.mul {x y : Mx} (hx : x.One) (hy : y.One) : (x.mul y).One := by
  unfold Mx.One Mx.mul at *
  simp only
  have e : (x.a * y.a + x.b * y.c) * (x.c * y.b + x.d * y.d) - (x.a * y.b + x.b * y.d) * (x.c * y.a + x.d * y.c) = (x.a * x.d - x.b * x.c) * (y.a * y.d - y.b * y.c) := by grind
  rw [e, hx, hy]
  rfl
theorem Mx.One.gcd {x : Mx} (h : x.One) : Int.gcd x.d x.c = 1 := by
  have h1 : ((Int.gcd x.d x.c : Nat) : Int) ∣ 1 := by
    rw [← h]
    exact Int.dvd_sub (Int.dvd_mul_of_dvd_right (Int.gcd_dvd_left ..)) (Int.dvd_mul_of_dvd_right (Int.gcd_dvd_right ..))
  have h2 := Int.natAbs_dvd_natAbs.2 h1
  simpa using h2
theorem dvd_core {K h : Nat} {X : Int} (hg : Nat.gcd h K = 1) (hd : (K : Int) ∣ h * X) : (K : Int) ∣ X := by
  have h1 := Int.natAbs_dvd_natAbs.2 hd
  rw [Int.natAbs_mul, Int.natAbs_natCast, Int.natAbs_natCast] at h1
  have h2 : K ∣ X.natAbs := Nat.Coprime.dvd_of_dvd_mul_left (Nat.Coprime.symm hg) h1
  exact Int.dvd_trans (Int.natCast_dvd_natCast.2 h2) (Int.natAbs_dvd.2 (Int.dvd_refl _))
theorem rad_ring0 (a b c d h k q s N N' : Int) : h * (a + d - 2 * N) - k * (b * s - a * q - k + 2 * N' + 3 * h + h * q) =
    a * (k * q + h - d) - h * (k * q + h - d) - (2 * h * N + 2 * k * N' - (h * h + k * k + 1 - 3 * h * k)) + (a * d - b * c - 1) + b * (c - k * s) := by grind
theorem rad_ring {a b c d h k q s N N' : Int} (hD : k * q + h = d) (hS : c = k * s) (hT : a * d - b * c = 1) (hR : 2 * h * N + 2 * k * N' = h * h + k * k + 1 - 3 * h * k) : h * (a + d - 2 * N) = k * (b * s - a * q - k + 2 * N' + 3 * h + h * q) := by
  have e := rad_ring0 a b c d h k q s N N'
  rw [hR, hT, hD] at e
  rw [show c - k * s = 0 by omega] at e
  simp only [Int.sub_self, Int.mul_zero, Int.add_zero] at e
  exact Int.sub_eq_zero.1 e
def rad (x : Mx) : Int := if x.c = 0 then x.b * x.d else (x.a + x.d - 2 * dZ x.d x.c.natAbs) / x.c
theorem rad_zero {x : Mx} (h : x.c = 0)   : rad x = x.b * x.d := if_pos h
theorem rad_mul {x : Mx} (hx : x.One) (hc : x.c ≠ 0) : x.c * rad x = x.a + x.d - 2 * dZ x.d x.c.natAbs := by
  unfold rad
  rw [if_neg hc]
  refine Int.mul_ediv_cancel' ?_
  have hk : 0 < x.c.natAbs := by omega
  rw [← Int.natAbs_dvd]
  have hg := gcd_toNat (d := x.d) hk hx.gcd
  have hm := emod_toNat (d := x.d) hk
  have hdiv := Int.mul_ediv_add_emod x.d x.c.natAbs
  by_cases h1 : x.c.natAbs = 1
  · rw [h1]; exact Int.one_dvd _
  · have hh : 0 < (x.d % x.c.natAbs).toNat := Nat.pos_of_ne_zero fun e => by rw [e, Nat.gcd_zero_left] at hg; exact h1 hg
    have r := recip hh hk hg
    have ed : dZ x.d x.c.natAbs = dN (x.d % x.c.natAbs).toNat x.c.natAbs := rfl
    rw [← ed] at r
    generalize (x.d % x.c.natAbs).toNat = h at *
    rw [← hm] at hdiv
    generalize dZ x.d x.c.natAbs = N at *
    generalize dN x.c.natAbs h = N' at *
    generalize x.d / x.c.natAbs = q at *
    obtain ⟨s, hs⟩ : (x.c.natAbs : Int) ∣ x.c := Int.natAbs_dvd.2 (Int.dvd_refl _)
    have hdet := hx
    unfold Mx.One at hdet
    refine dvd_core hg ⟨x.b * s - x.a * q - x.c.natAbs + 2 * N' + 3 * h + h * q, ?_⟩
    exact rad_ring hdiv hs hdet r
end HP

/- Rademacher's function: translations, turns, and the cocycle. -/
namespace HP
theorem sgn_tri (x : Int) : (x.sign = -1 ∧ x < 0) ∨ (x.sign = 0 ∧ x = 0) ∨ (x.sign = 1 ∧ 0 < x) := by
  rcases Int.lt_trichotomy x 0 with h | h | h
  · exact .inl ⟨Int.sign_eq_neg_one_of_neg h, h⟩
  · exact .inr (.inl ⟨by rw [h]; rfl, h⟩)
  · exact .inr (.inr ⟨Int.sign_eq_one_of_pos h, h⟩)
theorem sign_id {c p q g h : Int} (e : c = p * h - q * g) (h1 : g ≠ 0 ∨ h ≠ 0) (h2 : p ≠ 0 ∨ q ≠ 0) : c.sign * g.sign * p.sign + p.sign * q.sign = c.sign * h.sign * q.sign + g.sign * h.sign := by
  have hP := Int.sign_mul p h
  have hQ := Int.sign_mul q g
  generalize p * h = P at *
  generalize q * g = Q at *
  have tP := sgn_tri P
  have tQ := sgn_tri Q
  have tc := sgn_tri c
  rcases sgn_tri p with ⟨a, _⟩ | ⟨a, _⟩ | ⟨a, _⟩ <;> rcases sgn_tri q with ⟨b, _⟩ | ⟨b, _⟩ | ⟨b, _⟩ <;> rcases sgn_tri g with ⟨c1, _⟩ | ⟨c1, _⟩ | ⟨c1, _⟩ <;> rcases sgn_tri h with ⟨d, _⟩ | ⟨d, _⟩ | ⟨d, _⟩ <;> rw [a, d] at hP <;> rw [b, c1] at hQ <;> rw [a, b, c1, d] <;> omega
theorem rad_T {x : Mx} (hx : x.One) (n : Int) : rad ⟨x.a, x.a * n + x.b, x.c, x.c * n + x.d⟩ = rad x + n := by
  by_cases hc : x.c = 0
  · rw [rad_zero hc, rad_zero (show (Mx.mk x.a (x.a * n + x.b) x.c (x.c * n + x.d)).c = 0 from hc)]
    show (x.a * n + x.b) * (x.c * n + x.d) = _
    have := hx
    unfold Mx.One at this
    rw [hc] at this ⊢
    simp only [Int.mul_zero, Int.sub_zero, Int.zero_mul, Int.zero_add] at *
    rw [Int.add_mul, Int.mul_right_comm, this, Int.one_mul, Int.add_comm]
  · have hx2 : (Mx.mk x.a (x.a * n + x.b) x.c (x.c * n + x.d)).One := by
      have := hx
      unfold Mx.One at *
      show x.a * (x.c * n + x.d) - (x.a * n + x.b) * x.c = 1
      rw [← this]
      grind
    have h1 := rad_mul hx hc
    have h2 := rad_mul hx2 hc
    have e : dZ (x.c * n + x.d) x.c.natAbs = dZ x.d x.c.natAbs := dZ_congr (by
      rw [Int.add_sub_cancel]
      exact Int.dvd_mul_of_dvd_left (Int.natAbs_dvd.2 (Int.dvd_refl _)))
    apply Int.eq_of_mul_eq_mul_left hc
    rw [h2, Int.mul_add, h1]
    show x.a + (x.c * n + x.d) - 2 * dZ (x.c * n + x.d) x.c.natAbs = _
    rw [e]
    omega
theorem rad_neg {x : Mx} (hx : x.One) : rad ⟨-x.a, -x.b, -x.c, -x.d⟩ = rad x := by
  by_cases hc : x.c = 0
  · rw [rad_zero hc, rad_zero (show (Mx.mk (-x.a) (-x.b) (-x.c) (-x.d)).c = 0 by show -x.c = 0; omega)]
    show -x.b * -x.d = _
    rw [Int.neg_mul_neg]
  · have hx2 : (Mx.mk (-x.a) (-x.b) (-x.c) (-x.d)).One := by
      have := hx
      unfold Mx.One at *
      show -x.a * -x.d - -x.b * -x.c = 1
      rw [Int.neg_mul_neg, Int.neg_mul_neg, this]
    have h1 := rad_mul hx hc
    have h2 := rad_mul hx2 (show -x.c ≠ 0 by omega)
    have e : dZ (-x.d) x.c.natAbs = -dZ x.d x.c.natAbs := dZ_neg (by omega) (by
      have := hx.gcd
      rw [← Int.gcd_neg] at this
      rcases Int.natAbs_eq x.c with h | h
      · rw [← h, ← Int.gcd_neg]; exact this
      · rw [show ((x.c.natAbs : Nat) : Int) = -x.c by omega]; exact this)
    apply Int.eq_of_mul_eq_mul_left (show -x.c ≠ 0 by omega)
    rw [h2, Int.neg_mul, h1]
    show -x.a + -x.d - 2 * dZ (-x.d) (-x.c).natAbs = _
    rw [Int.natAbs_neg, e]
    omega
theorem unit_right {a b : Int} (h : a * b = 1) : b = 1 ∨ b = -1 := by
  have h1 : a.natAbs * b.natAbs = 1 := by rw [← Int.natAbs_mul, h]; rfl
  have hb : b.natAbs = 1 := Nat.dvd_one.1 ⟨_, by rw [Nat.mul_comm]; exact h1.symm⟩
  omega
theorem radS_ring (a b c d u v N N' s : Int) : c * d * u - c * d * (v - 3 * s) =
    c * (d * u - (b + -c - 2 * N')) - d * (c * v - (a + d - 2 * N)) - (a * d - b * c - 1) + (2 * d * N - 2 * c * N' - (c * c + d * d + 1 - 3 * s * (c * d))) := by grind
theorem rad_S {x : Mx} (hx : x.One) : rad ⟨x.b, -x.a, x.d, -x.c⟩ = rad x - 3 * (x.c.sign * x.d.sign) := by
  have hx2 : (Mx.mk x.b (-x.a) x.d (-x.c)).One := by
    have := hx
    unfold Mx.One at *
    show x.b * -x.c - -x.a * x.d = 1
    rw [← this]
    grind
  have hd1 := hx
  unfold Mx.One at hd1
  by_cases hc : x.c = 0
  · have hd : x.d ≠ 0 := fun e => by rw [hc, e] at hd1; simp at hd1
    have h2 := rad_mul hx2 hd
    rw [rad_zero hc, hc, Int.sign_zero, Int.zero_mul, Int.mul_zero, Int.sub_zero]
    have hdd : x.d = 1 ∨ x.d = -1 := by
      rw [hc, Int.mul_zero, Int.sub_zero] at hd1
      exact unit_right hd1
    have h0 : dZ (-0 : Int) 1 = 0 := dN_one _
    rcases hdd with e | e
    · have h3 : (1 : Int) * rad ⟨x.b, -x.a, x.d, -0⟩ = x.b + -0 - 2 * dZ (-0) 1 := by
        rw [hc, e] at h2; rw [e]; exact h2
      rw [h0] at h3
      rw [e] at *
      omega
    · have h3 : (-1 : Int) * rad ⟨x.b, -x.a, x.d, -0⟩ = x.b + -0 - 2 * dZ (-0) 1 := by
        rw [hc, e] at h2; rw [e]; exact h2
      rw [h0] at h3
      rw [e] at *
      omega
  · have h1 := rad_mul hx hc
    by_cases hd : x.d = 0
    · rw [rad_zero (show (Mx.mk x.b (-x.a) x.d (-x.c)).c = 0 from hd), hd, Int.sign_zero, Int.mul_zero, Int.mul_zero, Int.sub_zero]
      show -x.a * -x.c = rad x
      rw [Int.neg_mul_neg]
      rw [hd, Int.mul_zero, Int.zero_sub] at hd1
      have hcc : x.c = 1 ∨ x.c = -1 := by
        have : x.b * (-x.c) = 1 := by rw [Int.mul_neg]; exact hd1
        rcases unit_right this with h | h <;> omega
      have h0 : dZ (0 : Int) 1 = 0 := dN_one _
      rcases hcc with e | e
      · rw [hd, e] at h1
        have h1 : (1 : Int) * rad x = x.a + 0 - 2 * dZ 0 1 := h1
        rw [h0] at h1
        rw [e]
        omega
      · rw [hd, e] at h1
        have h1 : (-1 : Int) * rad x = x.a + 0 - 2 * dZ 0 1 := h1
        rw [h0] at h1
        rw [e]
        omega
    · have h2 := rad_mul hx2 hd
      have r := dZ_recip hc hd hx.gcd
      have h2 : x.d * rad ⟨x.b, -x.a, x.d, -x.c⟩ = x.b + -x.c - 2 * dZ (-x.c) x.d.natAbs := h2
      generalize rad ⟨x.b, -x.a, x.d, -x.c⟩ = u at *
      generalize rad x = v at *
      generalize dZ (-x.c) x.d.natAbs = N' at *
      generalize dZ x.d x.c.natAbs = N at *
      generalize x.c.sign * x.d.sign = s at *
      have hcd : x.c * x.d ≠ 0 := Int.mul_ne_zero hc hd
      apply Int.eq_of_mul_eq_mul_left hcd
      have e := radS_ring x.a x.b x.c x.d u v N N' s
      rw [h1, h2, hd1, r] at e
      simp only [Int.sub_self, Int.mul_zero, Int.add_zero] at e
      exact Int.sub_eq_zero.1 e
theorem Mx.One.row {x : Mx} (h : x.One) : x.c ≠ 0 ∨ x.d ≠ 0 := by
  by_cases hc : x.c = 0
  · refine .inr fun hd => ?_
    unfold Mx.One at h
    rw [hc, hd] at h
    simp at h
  · exact .inl hc
theorem rad_coc {x : Mx} (hx : x.One) : ∀ (n : Nat) (y : Mx), y.c.natAbs ≤ n → y.One → rad (x.mul y) = rad x + rad y - 3 * (x.c.sign * y.c.sign * (x.mul y).c.sign)
  | n, y, hn, hy => by
    by_cases hc : y.c = 0
    · rw [rad_zero hc, hc, Int.sign_zero, Int.mul_zero, Int.zero_mul, Int.mul_zero, Int.sub_zero]
      have hd := hy
      unfold Mx.One at hd
      rw [hc, Int.mul_zero, Int.sub_zero] at hd
      have h1 := rad_T hx (y.b * y.d)
      rcases unit_right hd with e | e
      · rw [e, Int.mul_one] at hd
        rw [← h1, e]
        unfold Mx.mul
        rw [hc, hd, e]
        congr 2 <;> grind
      · rw [e, Int.mul_neg, Int.mul_one] at hd
        have hx2 : (Mx.mk x.a (x.a * (y.b * y.d) + x.b) x.c (x.c * (y.b * y.d) + x.d)).One := by
          have := hx
          unfold Mx.One at *
          show x.a * (x.c * (y.b * y.d) + x.d) - (x.a * (y.b * y.d) + x.b) * x.c = 1
          rw [← this]
          grind
        rw [← h1, ← rad_neg hx2, e]
        unfold Mx.mul
        rw [hc, show y.a = -1 by omega, e]
        congr 2 <;> grind
    · cases n with
      | zero => omega
      | succ n =>
        -- y = y1 S T^m
        have hr0 := Int.emod_nonneg y.d hc
        have hr1 := Int.emod_lt y.d hc
        have hdiv := Int.mul_ediv_add_emod y.d y.c
        generalize hm : y.d / y.c = m at *
        generalize y.d % y.c = r at *
        have hy1 : (Mx.mk (-(y.b - y.a * m)) y.a (-r) y.c).One := by
          have := hy
          unfold Mx.One at *
          show -(y.b - y.a * m) * y.c - y.a * -r = 1
          rw [← this, ← hdiv]
          grind
        have ih := rad_coc hx n (Mx.mk (-(y.b - y.a * m)) y.a (-r) y.c) (by show (-r).natAbs ≤ n; omega) hy1
        have hxy1 := hx.mul hy1
        have e1 := rad_S hxy1
        have e2 := rad_S hy1
        have hys : (Mx.mk y.a (y.b - y.a * m) y.c r).One := by
          have := hy
          unfold Mx.One at *
          show y.a * r - (y.b - y.a * m) * y.c = 1
          rw [← this, ← hdiv]
          grind
        have hxs := hx.mul hys
        have e3 := rad_T hys m
        have e4 := rad_T hxs m
        have f1 : (Mx.mk y.a (y.a * m + (y.b - y.a * m)) y.c (y.c * m + r)) = y := by
          rw [hdiv, show y.a * m + (y.b - y.a * m) = y.b by omega]
        have f2 : (Mx.mk (x.mul ⟨y.a, y.b - y.a * m, y.c, r⟩).a ((x.mul ⟨y.a, y.b - y.a * m, y.c, r⟩).a * m + (x.mul ⟨y.a, y.b - y.a * m, y.c, r⟩).b) (x.mul ⟨y.a, y.b - y.a * m, y.c, r⟩).c ((x.mul ⟨y.a, y.b - y.a * m, y.c, r⟩).c * m + (x.mul ⟨y.a, y.b - y.a * m, y.c, r⟩).d)) = x.mul y := by
          unfold Mx.mul
          simp only
          rw [← hdiv]
          congr 1 <;> grind
        have f3 : (Mx.mk (Mx.mk (-(y.b - y.a * m)) y.a (-r) y.c).b (-(Mx.mk (-(y.b - y.a * m)) y.a (-r) y.c).a) (Mx.mk (-(y.b - y.a * m)) y.a (-r) y.c).d (-(Mx.mk (-(y.b - y.a * m)) y.a (-r) y.c).c)) = ⟨y.a, y.b - y.a * m, y.c, r⟩ := by
          simp only [Int.neg_neg]
        have f4 : (Mx.mk (x.mul ⟨-(y.b - y.a * m), y.a, -r, y.c⟩).b (-(x.mul ⟨-(y.b - y.a * m), y.a, -r, y.c⟩).a) (x.mul ⟨-(y.b - y.a * m), y.a, -r, y.c⟩).d (-(x.mul ⟨-(y.b - y.a * m), y.a, -r, y.c⟩).c)) = x.mul ⟨y.a, y.b - y.a * m, y.c, r⟩ := by
          unfold Mx.mul
          simp only
          congr 1 <;> grind
        rw [f1] at e3
        rw [f2] at e4
        rw [f3] at e2
        rw [f4] at e1
        have sid := sign_id (c := x.c) (p := (x.mul ⟨-(y.b - y.a * m), y.a, -r, y.c⟩).c) (q := (x.mul ⟨-(y.b - y.a * m), y.a, -r, y.c⟩).d) (g := -r) (h := y.c) (by
          have := hy1
          unfold Mx.One at this
          unfold Mx.mul
          simp only at this ⊢
          rw [show (x.c * -(y.b - y.a * m) + x.d * -r) * y.c - (x.c * y.a + x.d * y.c) * -r = x.c * (-(y.b - y.a * m) * y.c - y.a * -r) by grind, this, Int.mul_one]) (.inr hc) hxy1.row
        have hcq : (x.mul y).c = (x.mul ⟨-(y.b - y.a * m), y.a, -r, y.c⟩).d := by
          unfold Mx.mul
          rfl
        have g1 : (Mx.mk (-(y.b - y.a * m)) y.a (-r) y.c).c = -r := rfl
        have g2 : (Mx.mk (-(y.b - y.a * m)) y.a (-r) y.c).d = y.c := rfl
        rw [g1] at ih e2
        rw [g2] at e2
        rw [hcq]
        generalize (x.mul ⟨-(y.b - y.a * m), y.a, -r, y.c⟩).c = p at *
        generalize (x.mul ⟨-(y.b - y.a * m), y.a, -r, y.c⟩).d = q at *
        generalize x.c.sign * (-r).sign * p.sign = s1 at *
        generalize p.sign * q.sign = s2 at *
        generalize x.c.sign * y.c.sign * q.sign = s3 at *
        generalize (-r).sign * y.c.sign = s4 at *
        omega
end HP

/- Rademacher's function modulo 12: a homomorphism; the sums of eta quotients; words. -/
namespace HP
def lowB (sc sd : Int) : Int := if sc = 0 ∧ sd = -1 then 6 else 0
def psi12 (x : Mx) : Int := rad x - 3 * x.c.sign + lowB x.c.sign x.d.sign
def del (sx dx sy dy sz dz : Int) : Int := -3 * (sx * sy * sz) - 3 * sz + 3 * sx + 3 * sy + lowB sz dz - lowB sx dx - lowB sy dy
theorem psi12_mul {x y : Mx} (hx : x.One) (hy : y.One) : psi12 (x.mul y) = psi12 x + psi12 y + del x.c.sign x.d.sign y.c.sign y.d.sign (x.mul y).c.sign (x.mul y).d.sign := by
  have h := rad_coc hx y.c.natAbs y (Nat.le_refl _) hy
  unfold psi12 del
  omega
theorem del_dvd {x y : Mx} (hx : x.One) (hy : y.One) : (12 : Int) ∣ del x.c.sign x.d.sign y.c.sign y.d.sign (x.mul y).c.sign (x.mul y).d.sign := by
  have hz := hx.mul hy
  have dx := hx
  have dy := hy
  have dz := hz
  unfold Mx.One at dx dy dz
  by_cases hc : x.c = 0
  · have ez : (x.mul y).c = x.d * y.c := by unfold Mx.mul; show x.c * y.a + x.d * y.c = _; rw [hc]; omega
    have ed : (x.mul y).d = x.d * y.d := by unfold Mx.mul; show x.c * y.b + x.d * y.d = _; rw [hc]; omega
    rw [ez, ed, hc]
    rw [hc, Int.mul_zero, Int.sub_zero] at dx
    rcases unit_right dx with e | e
    · rw [e, Int.one_mul, Int.one_mul]
      unfold del lowB
      refine ⟨0, ?_⟩
      simp
      omega
    · have f1 : (-1 * y.c).sign = -y.c.sign := by rw [show -1 * y.c = -y.c by omega, Int.sign_neg]
      have f2 : (-1 * y.d).sign = -y.d.sign := by rw [show -1 * y.d = -y.d by omega, Int.sign_neg]
      rw [e, f1, f2]
      have r := hy.row
      unfold del lowB
      rcases sgn_tri y.c with ⟨a, _⟩ | ⟨a, _⟩ | ⟨a, _⟩ <;> rcases sgn_tri y.d with ⟨b, _⟩ | ⟨b, _⟩ | ⟨b, _⟩ <;> rw [a, b] <;> first | (exfalso; omega) | (simp; done) | (simp; omega)
  · by_cases hg : y.c = 0
    · have ez : (x.mul y).c = x.c * y.a := by unfold Mx.mul; show x.c * y.a + x.d * y.c = _; rw [hg]; omega
      rw [ez, hg]
      rw [hg, Int.mul_zero, Int.sub_zero] at dy
      have ey : y.a = y.d := by
        rcases unit_right dy with e | e
        · rw [e] at dy ⊢; omega
        · rw [e] at dy ⊢; omega
      rw [ey, Int.sign_mul]
      unfold del lowB
      rcases unit_right dy with e | e
      · rw [e]
        rcases sgn_tri x.c with ⟨a, _⟩ | ⟨a, _⟩ | ⟨a, _⟩ <;> rw [a] <;> first | (exfalso; omega) | (simp; done) | (simp; omega)
      · rw [e]
        rcases sgn_tri x.c with ⟨a, _⟩ | ⟨a, _⟩ | ⟨a, _⟩ <;> rw [a] <;> first | (exfalso; omega) | (simp; done) | (simp; omega)
    · by_cases hzc : (x.mul y).c = 0
      · rw [hzc, Int.mul_zero, Int.sub_zero] at dz
        have ea : (x.mul y).a = (x.mul y).d := by
          rcases unit_right dz with e | e
          · rw [e] at dz ⊢; omega
          · rw [e] at dz ⊢; omega
        have eg : y.c = -(x.c * (x.mul y).d) := by
          have h1 : x.a * (x.mul y).c - x.c * (x.mul y).a = (x.a * x.d - x.b * x.c) * y.c := by
            unfold Mx.mul
            simp only
            grind
          rw [hzc, ea, dx] at h1
          omega
        have es : y.c.sign = -(x.c.sign * (x.mul y).d.sign) := by rw [eg, Int.sign_neg, Int.sign_mul]
        rw [hzc, es]
        unfold del lowB
        rcases unit_right dz with e | e
        · rw [e]
          rcases sgn_tri x.c with ⟨a, _⟩ | ⟨a, _⟩ | ⟨a, _⟩ <;> rw [a] <;> first | (exfalso; omega) | (simp; done) | (simp; omega)
        · rw [e]
          rcases sgn_tri x.c with ⟨a, _⟩ | ⟨a, _⟩ | ⟨a, _⟩ <;> rw [a] <;> first | (exfalso; omega) | (simp; done) | (simp; omega)
      · unfold del lowB
        rcases sgn_tri x.c with ⟨a, _⟩ | ⟨a, _⟩ | ⟨a, _⟩ <;> rcases sgn_tri y.c with ⟨b, _⟩ | ⟨b, _⟩ | ⟨b, _⟩ <;> rcases sgn_tri (x.mul y).c with ⟨c, _⟩ | ⟨c, _⟩ | ⟨c, _⟩ <;> rw [a, b, c] <;> first | (exfalso; omega) | (simp)
theorem word_step {m : Mx} (hm : m.One) {q r : Int} (ha : m.a = q * m.c + r) : (Mx.mk m.c m.d (-r) (q * m.d - m.b)).One ∧ (12 : Int) ∣ psi12 m - (q + 9 + psi12 ⟨m.c, m.d, -r, q * m.d - m.b⟩) := by
  have h1 : (Mx.mk m.c m.d (-r) (q * m.d - m.b)).One := by
    have := hm
    unfold Mx.One at *
    show m.c * (q * m.d - m.b) - m.d * -r = 1
    rw [← this, ha]
    grind
  have hx : (Mx.mk q (-1) 1 0).One := by show q * 0 - -1 * 1 = 1; omega
  refine ⟨h1, ?_⟩
  have e : (Mx.mk q (-1) 1 0).mul ⟨m.c, m.d, -r, q * m.d - m.b⟩ = m := by
    unfold Mx.mul
    simp only
    rw [show q * m.c + -1 * -r = m.a by omega, show q * m.d + -1 * (q * m.d - m.b) = m.b by omega, show 1 * m.c + 0 * -r = m.c by omega, show 1 * m.d + 0 * (q * m.d - m.b) = m.d by omega]
  have h2 := psi12_mul hx h1
  have h3 := del_dvd hx h1
  rw [e] at h2 h3
  have h4 : psi12 (Mx.mk q (-1) 1 0) = q - 3 := by
    have h5 := rad_mul hx (show (1 : Int) ≠ 0 by omega)
    have h6 : (1 : Int) * rad (Mx.mk q (-1) 1 0) = q + 0 - 2 * dZ 0 1 := h5
    have h0 : dZ (0 : Int) 1 = 0 := dN_one _
    rw [h0] at h6
    show rad (Mx.mk q (-1) 1 0) - 3 * 1 + lowB 1 0 = q - 3
    have : lowB 1 0 = 0 := rfl
    omega
  rw [h4] at h2
  obtain ⟨t, ht⟩ := h3
  rw [ht] at h2
  exact ⟨t - 1, by omega⟩
def Mx.at (x : Mx) (d : Int) : Mx := ⟨x.a, x.b * d, x.c / d, x.d⟩
theorem Mx.One.at {x : Mx} (h : x.One) {d : Int} (hd : d ∣ x.c) : (x.at d).One := by
  unfold Mx.One Mx.at at *
  obtain ⟨q, hq⟩ := hd
  by_cases h0 : d = 0
  · rw [h0, Int.zero_mul] at hq
    rw [hq, Int.mul_zero] at h
    show x.a * x.d - x.b * d * (x.c / d) = 1
    rw [hq, Int.zero_ediv, Int.mul_zero]
    exact h
  · show x.a * x.d - x.b * d * (x.c / d) = 1
    rw [hq, Int.mul_ediv_cancel_left _ h0, Int.mul_assoc, ← hq]
    exact h
end HP

/- Dedekind sums as fractions. -/
namespace HP
theorem rat_bd {a b : Int} (hb : b ≠ 0) : (Rat.divInt a b).num.natAbs ≤ a.natAbs ∧ (Rat.divInt a b).den ≤ b.natAbs := by
  rw [Rat.num_divInt, Rat.den_divInt, if_neg hb]
  constructor
  · rw [Int.natAbs_ediv_of_dvd (by
      refine Int.dvd_trans ?_ (Int.dvd_mul_left _ _)
      exact Int.gcd_dvd_right ..), Int.natAbs_mul, Int.natAbs_sign_of_ne_zero hb, Nat.one_mul]
    exact Nat.div_le_self _ _
  · exact Nat.div_le_self _ _
def RB (q : Rat) : Prop := ln q.num.natAbs ≤ 1000 ∧ ln q.den ≤ 1000
theorem RB.of {a b : Int} (hb : b ≠ 0) (h1 : ln a.natAbs ≤ 1000) (h2 : ln b.natAbs ≤ 1000) : RB (Rat.divInt a b) := by
  obtain ⟨e1, e2⟩ := rat_bd (a := a) hb
  have m : ∀ {x y : Nat}, x ≤ y → ln x ≤ ln y := fun h => ln_le (Nat.lt_of_le_of_lt h (lt_ln _))
  exact ⟨Nat.le_trans (m e1) h1, Nat.le_trans (m e2) h2⟩
theorem ln_of {x k : Nat} (h : x < 2 ^ (32 * k)) : ln x ≤ k := ln_le (by rw [w32_two]; exact h)
end HP

/- Multipliers of eta quotients: the fractional part of a sum over the divisors. -/
namespace HP
def Mx.neg (m : Mx) : Mx := ⟨-m.a, -m.b, -m.c, -m.d⟩
theorem Mx.One.neg {m : Mx} (h : m.One) : m.neg.One := by
  unfold Mx.One Mx.neg at *
  grind
end HP

/- Fractions as the program reckons them: numerator and denominator of Lean's Rat. -/
namespace HP
theorem over_num {n d : Int} (hd : 0 < d) : (Rat.divInt n d).num = n / (Int.gcd n d : Nat) ∧ ((Rat.divInt n d).den : Int) = d / (Int.gcd n d : Nat) := by
  rw [Rat.num_divInt, Rat.den_divInt, if_neg (by omega), Int.sign_eq_one_of_pos hd, Int.one_mul, Int.gcd_comm]
  refine ⟨rfl, ?_⟩
  rw [Int.natCast_ediv]
  congr 1
  omega
theorem over_whole (n : Int) : (Rat.divInt n 1).num = n ∧ (Rat.divInt n 1).den = 1 := by
  have h := over_num (n := n) (d := 1) (by omega)
  rw [Int.gcd_one] at h
  exact ⟨by rw [h.1]; exact Int.ediv_one _, by have := h.2; omega⟩
theorem over_cop {n d : Int} (hd : 0 < d) (hg : Int.gcd n d = 1) : (Rat.divInt n d).num = n ∧ ((Rat.divInt n d).den : Int) = d := by
  have h := over_num (n := n) hd
  rw [hg] at h
  exact ⟨by rw [h.1]; exact Int.ediv_one _, by rw [h.2]; exact Int.ediv_one _⟩
theorem over_neg (n d : Int) : Rat.divInt (-n) (-d) = Rat.divInt n d := Rat.neg_divInt_neg n d
theorem over_self (q : Rat) : Rat.divInt q.num q.den = q := Rat.num_divInt_den q
theorem rat_add (a b : Rat) : a + b = Rat.divInt (a.num * b.den + b.num * a.den) (a.den * b.den) := by
  rw [Rat.add_def', ← Rat.divInt_ofNat, Int.natCast_mul]
theorem rat_add_one {a b : Rat} (ha : a.den = 1) (hb : b.den = 1) : (a + b).num = a.num + b.num ∧ (a + b).den = 1 := by
  have h := rat_add a b
  rw [ha, hb] at h
  rw [h]
  have e := over_whole (a.num * ((1 : Nat) : Int) + b.num * ((1 : Nat) : Int))
  refine ⟨e.1.trans (by omega), e.2⟩
theorem rat_mul (a b : Rat) : a * b = Rat.divInt (a.num * b.num) (a.den * b.den) := by
  rw [Rat.mul_def, Rat.normalize_eq_mkRat, ← Rat.divInt_ofNat, Int.natCast_mul]
theorem rat_neg (a : Rat) : -a = Rat.divInt (-a.num) a.den := by
  rw [← Rat.neg_divInt, Rat.num_divInt_den]
theorem rat_sub (a b : Rat) : a - b = a + -b := Rat.sub_eq_add_neg a b
theorem frac_pos {n d : Int} (hd : 0 < d) {g : Int} (hg : g = (Int.gcd n d : Nat)) : n.tdiv g = (Rat.divInt n d).num ∧ d.tdiv g = ((Rat.divInt n d).den : Int) := by
  have h := over_num (n := n) hd
  rw [h.1, h.2, hg]
  exact ⟨Int.tdiv_eq_ediv_of_dvd (Int.gcd_dvd_left ..), Int.tdiv_eq_ediv_of_dvd (Int.gcd_dvd_right ..)⟩
end HP

