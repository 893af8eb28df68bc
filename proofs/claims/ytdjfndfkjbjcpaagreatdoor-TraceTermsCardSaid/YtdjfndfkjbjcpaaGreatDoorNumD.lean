/- Digits: how many; sums, differences and comparisons digit by digit. -/
import Derived.Test.YtdjfndfkjbjcpaaGreatDoorNumA
namespace HP
def ln (x : Nat) : Nat := if x = 0 then 0 else Nat.log2 x / 32 + 1
theorem w32_two (n : Nat) : W32 ^ n = 2 ^ (32 * n) := by rw [Nat.pow_mul]; rfl
theorem len_ln (x : Nat) : Len x (ln x) := by
  unfold ln
  by_cases h : x = 0
  · subst h; rw [if_pos rfl]; exact len_zero
  · rw [if_neg h]
    have h1 := Nat.log2_self_le h
    have h2 := Nat.lt_log2_self (n := x)
    refine ⟨?_, .inr ?_⟩
    · rw [w32_two]
      exact Nat.lt_of_lt_of_le h2 (Nat.pow_le_pow_right (by decide) (by omega))
    · rw [w32_two]
      exact Nat.le_trans (Nat.pow_le_pow_right (by decide) (by omega)) h1
theorem Len.eq {x n : Nat} (h : Len x n) : n = ln x := h.unique (len_ln x)
theorem ln_zero : ln 0 = 0 := rfl
theorem ln_pos {x : Nat} (h : x ≠ 0) : 1 ≤ ln x := by
  have := (len_ln x).zero_iff
  omega
theorem ln_le {x k : Nat} (h : x < W32 ^ k) : ln x ≤ k := (len_ln x).le h
theorem lt_ln (x : Nat) : x < W32 ^ ln x := (len_ln x).1
theorem val_ln (x : Nat) : valF (dg x) (ln x) = x := valF_dg' (lt_ln x)
theorem ln_top {x : Nat} (h : x ≠ 0) : dg x (ln x - 1) ≠ 0 := by
  have h1 := ln_pos h
  have h2 := (len_ln x).2
  have h3 := lt_ln x
  intro h0
  have e := val_ln x
  obtain ⟨n, hn⟩ : ∃ n, ln x = n + 1 := ⟨ln x - 1, by omega⟩
  rw [hn] at e h0
  rw [valF, show dg x n = 0 from h0, Nat.zero_mul, Nat.add_zero, valF_dg] at e
  have h4 := Nat.mod_lt x (w32_pos n)
  rw [hn] at h2
  have : n + 1 - 1 = n := rfl
  rw [this] at h2
  omega
theorem dg_out {x i : Nat} (h : ln x ≤ i) : dg x i = 0 := by
  unfold dg
  rw [Nat.div_eq_of_lt (Nat.lt_of_lt_of_le (lt_ln x) (w32_mono h)), Nat.zero_mod]
theorem lt_of_ln {x y : Nat} (h : ln x < ln y) : x < y := by
  apply Nat.lt_of_not_le
  intro hle
  have := ln_le (Nat.lt_of_le_of_lt hle (lt_ln x))
  omega
def DAgr (x y i : Nat) : Prop := x / W32 ^ i = y / W32 ^ i
theorem agr_start {x y n : Nat} (h1 : ln x = n) (h2 : ln y = n) : DAgr x y n := by
  unfold DAgr
  rw [Nat.div_eq_of_lt (h1 ▸ lt_ln x), Nat.div_eq_of_lt (h2 ▸ lt_ln y)]
theorem div_dg (x i : Nat) : x / W32 ^ i = x / W32 ^ (i + 1) * W32 + dg x i := by
  have h := Nat.div_add_mod (x / W32 ^ i) W32
  rw [Nat.div_div_eq_div_mul, ← Nat.pow_succ] at h
  unfold dg
  rw [Nat.mul_comm]
  exact h.symm
theorem agr_down {x y i : Nat} (h : DAgr x y (i + 1)) (e : dg x i = dg y i) : DAgr x y i := by
  unfold DAgr at *
  rw [div_dg x, div_dg y, h, e]
theorem agr_zero {x y : Nat} (h : DAgr x y 0) : x = y := by
  unfold DAgr at h
  simpa using h
theorem agr_lt {x y i : Nat} (h : DAgr x y (i + 1)) (e : dg x i < dg y i) : x < y := by
  unfold DAgr at h
  apply Nat.lt_of_not_le
  intro hle
  have h1 := Nat.div_le_div_right (c := W32 ^ i) hle
  rw [div_dg x, div_dg y, h] at h1
  omega
theorem DAgr.symm {x y i : Nat} (h : DAgr x y i) : DAgr y x i := Eq.symm h
theorem sub_step {F a b : Nat → Nat} {i r r' d : Nat} (h : valF F i + valF b i = valF a i + r * W32 ^ i) (hd : a i + r' * W32 = d + b i + r) (hF : F i = d) :
    valF F (i + 1) + valF b (i + 1) = valF a (i + 1) + r' * W32 ^ (i + 1) := by
  rw [valF, valF, valF, hF, Nat.pow_succ]
  have e : (a i + r' * W32) * W32 ^ i = (d + b i + r) * W32 ^ i := by rw [hd]
  rw [Nat.add_mul, Nat.add_mul, Nat.add_mul] at e
  rw [Nat.mul_comm (W32 ^ i) W32, ← Nat.mul_assoc]
  omega
theorem valF_congr {F G : Nat → Nat} : ∀ n, (∀ i, i < n → F i = G i) → valF F n = valF G n
  | 0, _ => rfl
  | n + 1, h => by rw [valF, valF, valF_congr n fun i hi => h i (by omega), h n (by omega)]
theorem sub_end {F : Nat → Nat} {x y n r : Nat} (h : valF F n + valF (dg y) n = valF (dg x) n + r * W32 ^ n) (hF : ∀ i, i < n → F i < W32) (hx : ln x ≤ n) (hle : y ≤ x) : valF F n = x - y := by
  have hx2 : x < W32 ^ n := Nat.lt_of_lt_of_le (lt_ln x) (w32_mono hx)
  rw [valF_dg' hx2, valF_dg' (Nat.lt_of_le_of_lt hle hx2)] at h
  have hl := valF_lt n hF
  rcases Nat.eq_zero_or_pos r with h0 | h0
  · rw [h0, Nat.zero_mul] at h; omega
  · have : 1 * W32 ^ n ≤ r * W32 ^ n := Nat.mul_le_mul_right _ h0
    omega
theorem dg_of {F : Nat → Nat} {n x : Nat} (h : valF F n = x) (hF : ∀ i, i < n → F i < W32) {i : Nat} (hi : i < n) : F i = dg x i := by
  rw [← h, dg_valF n i hF hi]
theorem add_end {F : Nat → Nat} {x y n c : Nat} (h : valF F n + c * W32 ^ n = valF (dg x) n + valF (dg y) n) (hx : x < W32 ^ n) (hy : y < W32 ^ n) : valF F n + c * W32 ^ n = x + y := by
  rw [h, valF_dg' hx, valF_dg' hy]
theorem borrow_bit (x y c : Nat) (hx : x < 4294967296) (hy : y < 4294967296) (hc : c ≤ 1) (d : Nat) (hd : d = (x + 8589934592 - y - c) % 4294967296) :
    (((~~~(BitVec.ofNat 32 x) &&& BitVec.ofNat 32 y) ||| (~~~(BitVec.ofNat 32 x ^^^ BitVec.ofNat 32 y) &&& BitVec.ofNat 32 d)).toNat) / 2147483648 = if x < y + c then 1 else 0 := by
  have key : ∀ v : BitVec 32, v.toNat / 2147483648 = if v.msb then 1 else 0 := fun v => by
    rw [BitVec.msb_eq_decide]
    have := v.isLt
    by_cases h : 2 ^ (32 - 1) ≤ v.toNat
    · rw [decide_eq_true h, if_pos rfl]; simp at h; omega
    · rw [decide_eq_false h, if_neg (by simp)]; simp at h; omega
  have m : ∀ z, z < 4294967296 → (BitVec.ofNat 32 z).msb = decide (2147483648 ≤ z) := fun z hz => by
    rw [BitVec.msb_eq_decide, BitVec.toNat_ofNat, Nat.mod_eq_of_lt hz]
  rw [key, BitVec.msb_or, BitVec.msb_and, BitVec.msb_and, BitVec.msb_not, BitVec.msb_not, BitVec.msb_xor, m x hx, m y hy, m d (by omega)]
  by_cases h1 : 2147483648 ≤ x <;> by_cases h2 : 2147483648 ≤ y <;> by_cases h3 : 2147483648 ≤ d <;> simp [h1, h2, h3] <;> omega
end HP
