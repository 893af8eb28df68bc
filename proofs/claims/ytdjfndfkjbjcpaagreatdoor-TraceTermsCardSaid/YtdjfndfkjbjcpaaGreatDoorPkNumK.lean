/- Own texts joined: NumK, NumL. -/
import Derived.Test.YtdjfndfkjbjcpaaGreatDoorNumD
/- Long division: the guess of a digit, the difference, and the digits' loop, in numbers. -/
namespace HP
structure KnD (U V P top u2 u' v1 v2 v' : Nat) : Prop where
  hU : U = (top * W32 + u2) * P + u'
  hV : V = (v1 * W32 + v2) * P + v'
  u2l : u2 < W32
  v2l : v2 < W32
  ul : u' < P
  vl : v' < P
  top1 : 2147483648 ≤ v1
  top2 : v1 < W32
  lt : U < V * W32
theorem KnD.v0 {U V P top u2 u' v1 v2 v' : Nat} (h : KnD U V P top u2 u' v1 v2 v') : 0 < V := by
  have h1 : 1 * P ≤ (v1 * W32 + v2) * P := Nat.mul_le_mul_right _ (by have := h.top1; rw [w32_eq]; omega)
  have := h.hV
  have := h.vl
  omega
theorem KnD.q_lt {U V P top u2 u' v1 v2 v' : Nat} (h : KnD U V P top u2 u' v1 v2 v') : U / V < W32 := Nat.div_lt_of_lt_mul h.lt
theorem KnD.top_le {U V P top u2 u' v1 v2 v' : Nat} (h : KnD U V P top u2 u' v1 v2 v') : top < v1 * W32 + W32 := by
  have hP : 0 < P := by have := h.vl; omega
  have h1 : (top * W32 + u2) * P < (v1 * W32 + v2 + 1) * P * W32 := by
    have h2 : V < (v1 * W32 + v2 + 1) * P := by rw [Nat.add_mul (v1 * W32 + v2), Nat.one_mul, h.hV]; have := h.vl; omega
    have h3 : V * W32 ≤ (v1 * W32 + v2 + 1) * P * W32 := Nat.mul_le_mul_right _ (Nat.le_of_lt h2)
    have := h.hU
    have := h.lt
    omega
  have h4 : top * W32 + u2 < (v1 * W32 + v2 + 1) * W32 := by
    rw [show (v1 * W32 + v2 + 1) * P * W32 = (v1 * W32 + v2 + 1) * W32 * P by rw [Nat.mul_right_comm]] at h1
    exact Nat.lt_of_mul_lt_mul_right h1
  have h5 := h.v2l
  rw [w32_eq] at *
  omega
structure KnG (U V top v1 g rest : Nat) : Prop where
  ge : U / V ≤ g
  eq : g * v1 + rest = top
theorem KnG.start {U V P top u2 u' v1 v2 v' : Nat} (h : KnD U V P top u2 u' v1 v2 v') : KnG U V top v1 (top / v1) (top % v1) := by
  have hv : 0 < v1 := by have := h.top1; omega
  refine ⟨?_, by rw [Nat.mul_comm]; exact Nat.div_add_mod top v1⟩
  have hP : 0 < P := by have := h.vl; omega
  apply (Nat.le_div_iff_mul_le hv).2
  have h1 : U / V * V ≤ U := Nat.div_mul_le_self U V
  have h2 : U / V * (v1 * W32 * P) ≤ U / V * V := Nat.mul_le_mul_left _ (by rw [h.hV, Nat.add_mul]; omega)
  have h3 : U < (top + 1) * W32 * P := by
    have h4 : (top * W32 + u2 + 1) * P ≤ (top + 1) * W32 * P := Nat.mul_le_mul_right _ (by have := h.u2l; rw [Nat.add_mul]; omega)
    have h5 : (top * W32 + u2 + 1) * P = (top * W32 + u2) * P + P := by rw [Nat.add_mul _ 1, Nat.one_mul]
    have := h.hU
    have := h.ul
    omega
  have h6 : U / V * v1 * (W32 * P) < (top + 1) * (W32 * P) := by
    rw [Nat.mul_assoc, ← Nat.mul_assoc v1, ← Nat.mul_assoc (top + 1)]
    omega
  have := Nat.lt_of_mul_lt_mul_right h6
  omega
theorem KnG.down {U V P top u2 u' v1 v2 v' g rest : Nat} (h : KnD U V P top u2 u' v1 v2 v') (k : KnG U V top v1 g rest) (hc : W32 ≤ g ∨ rest * W32 + u2 < g * v2) : 1 ≤ g ∧ KnG U V top v1 (g - 1) (rest + v1) := by
  have hlt : U / V < g := by
    rcases hc with hc | hc
    · exact Nat.lt_of_lt_of_le h.q_lt hc
    · apply (Nat.div_lt_iff_lt_mul h.v0).2
      have e : g * (v1 * W32 + v2) = g * v1 * W32 + g * v2 := by rw [Nat.mul_add, Nat.mul_assoc]
      have e2 : top * W32 = g * v1 * W32 + rest * W32 := by rw [← k.eq, Nat.add_mul]
      have h1 : (top * W32 + u2 + 1) * P ≤ g * (v1 * W32 + v2) * P := Nat.mul_le_mul_right _ (by omega)
      have h2 : g * (v1 * W32 + v2) * P ≤ g * V := by rw [Nat.mul_assoc]; exact Nat.mul_le_mul_left _ (by rw [h.hV]; omega)
      have h3 : (top * W32 + u2 + 1) * P = (top * W32 + u2) * P + P := by rw [Nat.add_mul _ 1, Nat.one_mul]
      have := h.hU
      have := h.ul
      omega
  have hk := k.eq
  suffices hs : ∀ q, q < g → 1 ≤ g ∧ q ≤ g - 1 ∧ (g - 1) * v1 + (rest + v1) = top from ⟨(hs _ hlt).1, (hs _ hlt).2.1, (hs _ hlt).2.2⟩
  intro q hq
  refine ⟨by omega, by omega, ?_⟩
  obtain ⟨m, rfl⟩ : ∃ m, g = m + 1 := ⟨g - 1, by omega⟩
  rw [Nat.add_mul, Nat.one_mul] at hk
  rw [Nat.add_sub_cancel]
  omega
theorem KnG.wide {U V P top u2 u' v1 v2 v' g rest : Nat} (h : KnD U V P top u2 u' v1 v2 v') (k : KnG U V top v1 g rest) (hr : W32 ≤ rest) : g < W32 ∧ g * v2 ≤ rest * W32 + u2 := by
  have h1 := h.top_le
  have h2 : g < W32 := by
    apply Nat.lt_of_not_le
    intro hg
    have h3 : W32 * v1 ≤ g * v1 := Nat.mul_le_mul_right _ hg
    have := k.eq
    rw [Nat.mul_comm W32 v1] at h3
    omega
  refine ⟨h2, ?_⟩
  have h4 : g * v2 ≤ W32 * W32 := Nat.mul_le_mul (Nat.le_of_lt h2) (Nat.le_of_lt h.v2l)
  have h5 : W32 * W32 ≤ rest * W32 := Nat.mul_le_mul_right _ hr
  omega
theorem KnG.fin {U V P top u2 u' v1 v2 v' g rest : Nat} (h : KnD U V P top u2 u' v1 v2 v') (k : KnG U V top v1 g rest) (hg : g < W32) (hc : g * v2 ≤ rest * W32 + u2) : g = U / V ∨ g = U / V + 1 := by
  have e : g * (v1 * W32 + v2) = g * v1 * W32 + g * v2 := by rw [Nat.mul_add, Nat.mul_assoc]
  have e2 : top * W32 = g * v1 * W32 + rest * W32 := by rw [← k.eq, Nat.add_mul]
  have h1 : g * (v1 * W32 + v2) * P ≤ (top * W32 + u2) * P := Nat.mul_le_mul_right _ (by omega)
  have h2 : g * V = g * (v1 * W32 + v2) * P + g * v' := by rw [h.hV, Nat.mul_add, Nat.mul_assoc]
  have h3 : g * v' ≤ W32 * P := Nat.mul_le_mul (Nat.le_of_lt hg) (Nat.le_of_lt h.vl)
  have hP : 0 < P := by have := h.vl; omega
  have h4 : W32 * P < V := by
    have : (W32 + 1) * P ≤ (v1 * W32 + v2) * P := Nat.mul_le_mul_right _ (by have := h.top1; rw [w32_eq]; omega)
    rw [Nat.add_mul, Nat.one_mul] at this
    have := h.hV
    omega
  have h5 : U < (U / V + 1) * V := by rw [Nat.mul_comm]; exact Nat.lt_mul_div_succ U h.v0
  have h6 : g * V < (U / V + 2) * V := by
    rw [show U / V + 2 = U / V + 1 + 1 from rfl, Nat.add_mul (U / V + 1), Nat.one_mul]
    have := h.hU
    omega
  have h7 := Nat.lt_of_mul_lt_mul_right h6
  have h8 := k.ge
  generalize U / V = q at *
  omega
def KnS (F u v : Nat → Nat) (g c r i : Nat) : Prop := valF F i + g * valF v i = valF u i + (c + r) * W32 ^ i
theorem knS_step {F F' u v : Nat → Nat} {g c r i t d r' : Nat} (h : KnS F u v g c r i) (hF : ∀ j, j < i → F' j = F j) (ht : t = g * v i + c) (hd : u i + r' * W32 = d + t % W32 + r) (hi : F' i = d) : KnS F' u v g (t / W32) r' (i + 1) := by
  unfold KnS at *
  rw [valF, valF, valF, hi, valF_congr i hF, Nat.pow_succ]
  have e1 := Nat.div_add_mod t W32
  have e2 : (u i + r' * W32) * W32 ^ i = (d + t % W32 + r) * W32 ^ i := by rw [hd]
  have e3 : (W32 * (t / W32) + t % W32) * W32 ^ i = (g * v i + c) * W32 ^ i := by rw [e1, ht]
  rw [Nat.mul_add g, ← Nat.mul_assoc g]
  rw [Nat.add_mul, Nat.add_mul, Nat.add_mul] at e2
  rw [Nat.add_mul, Nat.add_mul] at e3
  rw [Nat.add_mul] at h
  have e4 : (t / W32 + r') * (W32 ^ i * W32) = W32 * (t / W32) * W32 ^ i + r' * W32 * W32 ^ i := by
    rw [Nat.add_mul]
    congr 1
    · rw [Nat.mul_comm (W32 ^ i), ← Nat.mul_assoc, Nat.mul_comm (t / W32)]
    · rw [Nat.mul_comm (W32 ^ i), ← Nat.mul_assoc]
  rw [e4]
  omega
theorem knS_carry {g x c t : Nat} (hg : g < W32) (hx : x < W32) (hc : c < W32) (ht : t = g * x + c) : t < 18446744073709551616 ∧ t / W32 < W32 ∧ t % W32 < W32 := by
  have h1 : g * x ≤ 4294967295 * 4294967295 := Nat.mul_le_mul (by rw [w32_eq] at hg; omega) (by rw [w32_eq] at hx; omega)
  rw [w32_eq] at *
  refine ⟨by omega, by omega, by omega⟩
def KnB (F F0 v : Nat → Nat) (c i : Nat) : Prop := valF F i + c * W32 ^ i = valF F0 i + valF v i
theorem knB_step {F F' F0 v : Nat → Nat} {c i c' d : Nat} (h : KnB F F0 v c i) (hF : ∀ j, j < i → F' j = F j) (hs : F0 i + v i + c = d + c' * W32) (hi : F' i = d) : KnB F' F0 v c' (i + 1) := by
  unfold KnB at *
  rw [valF, valF, valF, hi, valF_congr i hF, Nat.pow_succ]
  have e2 : (F0 i + v i + c) * W32 ^ i = (d + c' * W32) * W32 ^ i := by rw [hs]
  rw [Nat.add_mul, Nat.add_mul, Nat.add_mul] at e2
  rw [Nat.mul_comm (W32 ^ i) W32, ← Nat.mul_assoc]
  omega
theorem valF_split (F : Nat → Nat) (a : Nat) : ∀ b, valF F (a + b) = valF F a + valF (fun i => F (a + i)) b * W32 ^ a
  | 0 => by simp [valF]
  | b + 1 => by
    rw [← Nat.add_assoc, valF, valF_split F a b, valF, Nat.add_mul, Nat.pow_add, Nat.mul_assoc, Nat.mul_comm (W32 ^ b)]
    omega
theorem knD_of {u v : Nat → Nat} {n : Nat} (hu : ∀ i, i < n + 3 → u i < W32) (hv : ∀ i, i < n + 2 → v i < W32) (ht : 2147483648 ≤ v (n + 1)) (hlt : valF u (n + 3) < valF v (n + 2) * W32) :
    KnD (valF u (n + 3)) (valF v (n + 2)) (W32 ^ n) (u (n + 2) * W32 + u (n + 1)) (u n) (valF u n) (v (n + 1)) (v n) (valF v n) where
  hU := by
    rw [valF, valF, valF, Nat.pow_succ, Nat.pow_succ, Nat.pow_succ, Nat.add_mul, Nat.add_mul, Nat.add_mul]
    have e1 : u (n + 2) * (W32 ^ n * W32 * W32) = u (n + 2) * W32 * W32 * W32 ^ n := by
      rw [Nat.mul_assoc (u (n + 2)), Nat.mul_assoc (u (n + 2)), Nat.mul_comm (W32 ^ n * W32), ← Nat.mul_assoc W32, Nat.mul_right_comm W32]
    have e2 : u (n + 1) * (W32 ^ n * W32) = u (n + 1) * W32 * W32 ^ n := by rw [Nat.mul_assoc, Nat.mul_comm (W32 ^ n)]
    rw [e1, e2]
    omega
  hV := by
    rw [valF, valF, Nat.pow_succ, Nat.add_mul]
    have e2 : v (n + 1) * (W32 ^ n * W32) = v (n + 1) * W32 * W32 ^ n := by rw [Nat.mul_assoc, Nat.mul_comm (W32 ^ n)]
    rw [e2]
    omega
  u2l := hu n (by omega)
  v2l := hv n (by omega)
  ul := valF_lt n fun i hi => hu i (by omega)
  vl := valF_lt n fun i hi => hv i (by omega)
  top1 := ht
  top2 := hv (n + 1) (by omega)
  lt := hlt
theorem knS_top {F F' u v : Nat → Nat} {g c r r' d n : Nat} (h : KnS F u v g c r n) (hF : ∀ j, j < n → F' j = F j) (hd : u n + r' * W32 = d + c + r) (hi : F' n = d) : valF F' (n + 1) + g * valF v n = valF u (n + 1) + r' * W32 ^ (n + 1) := by
  unfold KnS at h
  rw [valF, valF, hi, valF_congr n hF, Nat.pow_succ]
  have e2 : (u n + r' * W32) * W32 ^ n = (d + c + r) * W32 ^ n := by rw [hd]
  rw [Nat.add_mul, Nat.add_mul, Nat.add_mul] at e2
  rw [Nat.add_mul] at h
  rw [Nat.mul_comm (W32 ^ n) W32, ← Nat.mul_assoc]
  omega
theorem kn_right {U V T g : Nat} (hV : 0 < V) (hg : U / V ≤ g) (h : T + g * V = U) : g = U / V ∧ T = U % V := by
  have h1 : g ≤ U / V := (Nat.le_div_iff_mul_le hV).2 (by omega)
  have e : g = U / V := Nat.le_antisymm h1 hg
  refine ⟨e, ?_⟩
  have := Nat.div_add_mod U V
  rw [← e, Nat.mul_comm] at this
  omega
theorem kn_back {U V T T' W g k : Nat} (hV : 0 < V) (hg : g = U / V ∨ g = U / V + 1) (hT : T < W) (hVW : V ≤ W) (h : T + g * V = U + W) (h2 : T' + k * W = T + V) (hT' : T' < W) : g = U / V + 1 ∧ T' = U % V := by
  have hm := Nat.div_add_mod U V
  have hl := Nat.mod_lt U hV
  rw [Nat.mul_comm] at hm
  rcases hg with e | e
  · exfalso
    rw [e] at h
    omega
  · refine ⟨e, ?_⟩
    rw [e, Nat.add_mul, Nat.one_mul] at h
    rcases Nat.eq_zero_or_pos k with hk | hk
    · rw [hk, Nat.zero_mul] at h2
      omega
    · have h3 : 1 * W ≤ k * W := Nat.mul_le_mul_right _ hk
      rcases Nat.lt_or_ge k 2 with h4 | h4
      · have : k = 1 := by omega
        rw [this, Nat.one_mul] at h2
        omega
      · have h5 : 2 * W ≤ k * W := Nat.mul_le_mul_right _ h4
        omega
theorem knB_top {F F' F0 v : Nat → Nat} {c d k n : Nat} (h : KnB F F0 v c n) (hF : ∀ j, j < n → F' j = F j) (hd : F0 n + c = d + k * W32) (hi : F' n = d) : valF F' (n + 1) + k * W32 ^ (n + 1) = valF F0 (n + 1) + valF v n := by
  unfold KnB at h
  rw [valF, valF, hi, valF_congr n hF, Nat.pow_succ]
  have e2 : (F0 n + c) * W32 ^ n = (d + k * W32) * W32 ^ n := by rw [hd]
  rw [Nat.add_mul, Nat.add_mul] at e2
  rw [Nat.mul_comm (W32 ^ n) W32, ← Nat.mul_assoc]
  omega
structure KnL (A V : Nat) (u q : Nat → Nat) (n m j : Nat) : Prop where
  eq : A = valF (fun i => if i < j then 0 else q i) m * V + valF u (n + j)
  lt : valF u (n + j) < V * W32 ^ j
theorem valF_zero {F : Nat → Nat} : ∀ n, (∀ i, i < n → F i = 0) → valF F n = 0
  | 0, _ => rfl
  | n + 1, h => by rw [valF, valF_zero n fun i hi => h i (by omega), h n (by omega), Nat.zero_mul]
theorem KnL.start {A V : Nat} {u q : Nat → Nat} {n m : Nat} (h : valF u (n + m) = A) (hl : A < V * W32 ^ m) : KnL A V u q n m m :=
  ⟨by rw [valF_zero m fun i hi => if_pos hi, Nat.zero_mul, Nat.zero_add, h], by rw [h]; exact hl⟩
theorem valF_put {q q' : Nat → Nat} {j d : Nat} (hq : ∀ i, i ≠ j → q' i = q i) (hj : q' j = d) : ∀ m, j < m → valF (fun i => if i < j then 0 else q' i) m = valF (fun i => if i < j + 1 then 0 else q i) m + d * W32 ^ j
  | 0, h => absurd h (Nat.not_lt_zero _)
  | m + 1, h => by
    rw [valF, valF]
    by_cases e : m = j
    · subst e
      rw [if_neg (Nat.lt_irrefl _), if_pos (by omega), hj, valF_zero m fun i hi => if_pos hi, valF_zero m fun i hi => if_pos (by omega)]
      omega
    · rw [valF_put hq hj m (by omega), if_neg (by omega), if_neg (by omega), hq m e]
      omega
theorem KnL.sec {A V : Nat} {u q : Nat → Nat} {n m j : Nat} (h : KnL A V u q n m (j + 1)) : valF (fun i => u (j + i)) (n + 1) < V * W32 := by
  have h1 := h.lt
  rw [show n + (j + 1) = j + (n + 1) by omega, valF_split, Nat.pow_succ] at h1
  have h2 : valF (fun i => u (j + i)) (n + 1) * W32 ^ j < V * W32 * W32 ^ j := by
    rw [Nat.mul_assoc V, Nat.mul_comm W32]
    omega
  exact Nat.lt_of_mul_lt_mul_right h2
theorem KnL.step {A V : Nat} {u q u' q' : Nat → Nat} {n m j : Nat} (h : KnL A V u q n m (j + 1)) (hV : 0 < V) (hVn : V ≤ W32 ^ n) (hj : j < m) (hu : ∀ i, i < j + n → u i < W32) (hlow : ∀ i, i < j → u' i = u i)
    (hsec : ∀ i, i < n → u' (j + i) = dg (valF (fun i => u (j + i)) (n + 1) % V) i) (hq : ∀ i, i ≠ j → q' i = q i) (hqj : q' j = valF (fun i => u (j + i)) (n + 1) / V) : KnL A V u' q' n m j := by
  have h1 := h.eq
  rw [show n + (j + 1) = j + (n + 1) by omega, valF_split] at h1
  generalize valF (fun i => u (j + i)) (n + 1) = S at *
  have hm := Nat.mod_lt S hV
  have e1 : valF u' (n + j) = valF u j + S % V * W32 ^ j := by
    rw [Nat.add_comm n j, valF_split, valF_congr j hlow, valF_congr n hsec, valF_dg' (Nat.lt_of_lt_of_le hm hVn)]
  have hj2 : valF u j < W32 ^ j := valF_lt j fun i hi => hu i (by omega)
  have hd := Nat.div_add_mod S V
  refine ⟨?_, ?_⟩
  · rw [e1, valF_put hq hqj m hj, Nat.add_mul, h1]
    have e2 : S * W32 ^ j = S / V * W32 ^ j * V + S % V * W32 ^ j := by
      have e3 : (V * (S / V) + S % V) * W32 ^ j = S * W32 ^ j := by rw [hd]
      rw [← e3, Nat.add_mul, Nat.mul_comm V, Nat.mul_right_comm]
    omega
  · rw [e1]
    have h3 : (S % V + 1) * W32 ^ j ≤ V * W32 ^ j := Nat.mul_le_mul_right _ hm
    rw [Nat.add_mul, Nat.one_mul] at h3
    omega
theorem KnL.fin {A V : Nat} {u q : Nat → Nat} {n m : Nat} (h : KnL A V u q n m 0) : valF q m = A / V ∧ valF u n = A % V := by
  have h1 := h.eq
  have h2 := h.lt
  rw [Nat.add_zero] at h1 h2
  rw [Nat.pow_zero, Nat.mul_one] at h2
  rw [valF_congr (F := fun i => if i < 0 then 0 else q i) (G := q) m fun i _ => if_neg (Nat.not_lt_zero _)] at h1
  have hV : 0 < V := by omega
  constructor
  · rw [h1, Nat.mul_comm, Nat.mul_add_div hV, Nat.div_eq_of_lt h2, Nat.add_zero]
  · rw [h1, Nat.mul_comm, Nat.mul_add_mod, Nat.mod_eq_of_lt h2]
theorem kn_start {a b s la n m : Nat} (hs : s ≤ 31) (ha : a < W32 ^ la) (hb : 2147483648 * W32 ^ (n - 1) ≤ b * 2 ^ s) (hn : 1 ≤ n) (hm : n + m = la + 1) : a * 2 ^ s < b * 2 ^ s * W32 ^ m := by
  have h1 : 2 ^ s ≤ 2 ^ 31 := Nat.pow_le_pow_right (by omega) hs
  have h2 : 2147483648 * W32 ^ (n - 1) * W32 ^ m ≤ b * 2 ^ s * W32 ^ m := Nat.mul_le_mul_right _ hb
  have h3 : W32 ^ (n - 1) * W32 ^ m = W32 ^ la := by rw [← Nat.pow_add]; congr 1; omega
  rw [Nat.mul_assoc, h3] at h2
  have h4 : a * 2 ^ s < W32 ^ la * 2 ^ 31 := by
    have h5 : a * 2 ^ s ≤ a * 2 ^ 31 := Nat.mul_le_mul_left _ h1
    have h6 : (a + 1) * 2 ^ 31 ≤ W32 ^ la * 2 ^ 31 := Nat.mul_le_mul_right _ ha
    rw [Nat.add_mul] at h6
    omega
  have h7 : (2 : Nat) ^ 31 = 2147483648 := by decide
  rw [h7] at h4
  omega
theorem kn_fin {a b s : Nat} : a * 2 ^ s / (b * 2 ^ s) = a / b ∧ a * 2 ^ s % (b * 2 ^ s) = a % b * 2 ^ s :=
  ⟨Nat.mul_div_mul_right a b (Nat.pow_pos (by omega)), Nat.mul_mod_mul_right _ _ _⟩
end HP

/- Digits: division by one digit, and moves by binary places. -/
namespace HP
theorem short_step {x d i r : Nat} (hd : 0 < d) (hr : r = x / W32 ^ (i + 1) % d) :
    (r * W32 + dg x i) / d = dg (x / d) i ∧ (r * W32 + dg x i) % d = x / W32 ^ i % d ∧ (r * W32 + dg x i) / d < W32 := by
  have e := div_dg x i
  have hl : r < d := by rw [hr]; exact Nat.mod_lt _ hd
  have hx : dg x i < W32 := Nat.mod_lt _ (by rw [w32_eq]; omega)
  have m := Nat.div_add_mod (x / W32 ^ (i + 1)) d
  have e2 : x / W32 ^ i = d * (x / W32 ^ (i + 1) / d * W32) + (r * W32 + dg x i) := by
    rw [e, hr]
    generalize x / W32 ^ (i + 1) % d = b at *
    generalize x / W32 ^ (i + 1) / d = a at *
    rw [← m]
    rw [Nat.add_mul, Nat.mul_assoc, Nat.add_assoc]
  have q : (r * W32 + dg x i) / d < W32 := by
    apply Nat.div_lt_of_lt_mul
    have h1 : (r + 1) * W32 ≤ d * W32 := Nat.mul_le_mul_right _ hl
    rw [Nat.add_mul, Nat.one_mul] at h1
    omega
  refine ⟨?_, ?_, q⟩
  · show _ = x / d / W32 ^ i % W32
    rw [Nat.div_div_eq_div_mul, Nat.mul_comm d, ← Nat.div_div_eq_div_mul, e2, Nat.mul_add_div hd, Nat.mul_add_mod_self_right, Nat.mod_eq_of_lt q]
  · rw [e2, Nat.mul_add_mod]
theorem w32_cut {s : Nat} (hs : s ≤ 31) : W32 = 2 ^ s * 2 ^ (32 - s) := by
  rw [← Nat.pow_add, show s + (32 - s) = 32 by omega]
  rfl
theorem shl_hi {s y : Nat} (hs : s ≤ 31) : y * 2 ^ s / W32 = y / 2 ^ (32 - s) ∧ y * 2 ^ s % W32 = y % 2 ^ (32 - s) * 2 ^ s := by
  have hp : 0 < 2 ^ s := Nat.pow_pos (by omega)
  rw [w32_cut hs, Nat.mul_comm y]
  refine ⟨Nat.mul_div_mul_left _ _ hp, ?_⟩
  rw [Nat.mul_mod_mul_left, Nat.mul_comm]
theorem shl_small {s y : Nat} (hs : s ≤ 31) (hy : y < W32) : y * 2 ^ s / W32 < 2 ^ s := by
  rw [(shl_hi hs).1]
  apply Nat.div_lt_of_lt_mul
  rw [Nat.mul_comm, ← w32_cut hs]
  exact hy
theorem shl_zero {x s : Nat} : dg (x * 2 ^ s) 0 = dg x 0 * 2 ^ s % W32 := by
  show x * 2 ^ s / W32 ^ 0 % W32 = x / W32 ^ 0 % W32 * 2 ^ s % W32
  rw [Nat.pow_zero, Nat.div_one, Nat.div_one, Nat.mod_mul_mod]
theorem shl_dg {x s i : Nat} (hs : s ≤ 31) : dg (x * 2 ^ s) (i + 1) = dg x (i + 1) * 2 ^ s % W32 + dg x i * 2 ^ s / W32 := by
  have hp : 0 < 2 ^ s := Nat.pow_pos (by omega)
  have hc := w32_cut hs
  have e := div_dg x i
  have hx : dg x i < W32 := Nat.mod_lt _ (by rw [w32_eq]; omega)
  have h1 : x * 2 ^ s / W32 ^ (i + 1) = x / W32 ^ (i + 1) * 2 ^ s + dg x i / 2 ^ (32 - s) := by
    have : W32 ^ (i + 1) = 2 ^ s * (W32 ^ i * 2 ^ (32 - s)) := by
      rw [Nat.pow_succ]
      conv => lhs; rhs; rw [hc]
      rw [← Nat.mul_assoc, ← Nat.mul_assoc, Nat.mul_comm (W32 ^ i)]
    rw [Nat.mul_comm x]
    conv => lhs; rw [this]
    rw [Nat.mul_div_mul_left _ _ hp, ← Nat.div_div_eq_div_mul, e]
    conv => lhs; lhs; lhs; rhs; rw [hc]
    rw [← Nat.mul_assoc, Nat.mul_comm _ (2 ^ (32 - s)), Nat.mul_add_div (Nat.pow_pos (by omega))]
  have h2 : x / W32 ^ (i + 1) * 2 ^ s % W32 = dg x (i + 1) * 2 ^ s % W32 := by
    show _ = x / W32 ^ (i + 1) % W32 * 2 ^ s % W32
    rw [Nat.mod_mul_mod]
  have h3 : dg x (i + 1) * 2 ^ s % W32 + dg x i * 2 ^ s / W32 < W32 := by
    rw [(shl_hi hs).2]
    have a := shl_small hs hx
    have b : dg x (i + 1) % 2 ^ (32 - s) < 2 ^ (32 - s) := Nat.mod_lt _ (Nat.pow_pos (by omega))
    have c : (dg x (i + 1) % 2 ^ (32 - s) + 1) * 2 ^ s ≤ 2 ^ (32 - s) * 2 ^ s := Nat.mul_le_mul_right _ b
    rw [Nat.add_mul, Nat.one_mul, Nat.mul_comm (2 ^ (32 - s)), ← hc] at c
    omega
  show x * 2 ^ s / W32 ^ (i + 1) % W32 = _
  rw [h1, ← (shl_hi hs).1, Nat.add_mod, h2, Nat.mod_eq_of_lt (show dg x i * 2 ^ s / W32 < W32 by omega), Nat.mod_eq_of_lt h3]
theorem shr_dg {y s i : Nat} (hs : s ≤ 31) : dg (y / 2 ^ s) i = (dg y (i + 1) * W32 + dg y i) / 2 ^ s % W32 := by
  have hp : 0 < 2 ^ s := Nat.pow_pos (by omega)
  have hc := w32_cut hs
  show y / 2 ^ s / W32 ^ i % W32 = _
  rw [Nat.div_div_eq_div_mul, Nat.mul_comm (2 ^ s), ← Nat.div_div_eq_div_mul, div_dg y i, div_dg y (i + 1)]
  have e : (y / W32 ^ (i + 1 + 1) * W32 + dg y (i + 1)) * W32 + dg y i = 2 ^ s * (y / W32 ^ (i + 1 + 1) * 2 ^ (32 - s) * W32) + (dg y (i + 1) * W32 + dg y i) := by
    have : y / W32 ^ (i + 1 + 1) * W32 = 2 ^ s * (y / W32 ^ (i + 1 + 1) * 2 ^ (32 - s)) := by
      conv => lhs; rhs; rw [hc]
      rw [← Nat.mul_assoc, Nat.mul_comm _ (2 ^ s), Nat.mul_assoc]
    rw [this, Nat.add_mul, Nat.mul_assoc, Nat.add_assoc]
  rw [e, Nat.mul_add_div hp, Nat.mul_add_mod_self_right]
theorem dm_low {x y : Nat} (hy : 0 < y) (hr : x % y ≠ 0) : (-(x : Int)) / (y : Int) = -((x / y + 1 : Nat) : Int) ∧ (-(x : Int)) % (y : Int) = ((y - x % y : Nat) : Int) := by
  have m := Nat.div_add_mod x y
  have l := Nat.mod_lt x hy
  have e : -(x : Int) = ((y - x % y : Nat) : Int) + -((x / y + 1 : Nat) : Int) * (y : Int) := by
    have h1 : ((y - x % y : Nat) : Int) = y - (x % y : Nat) := by omega
    rw [h1]
    have h2 : (x : Int) = y * (x / y : Nat) + (x % y : Nat) := by rw [← Int.natCast_mul, ← Int.natCast_add, m]
    generalize x % y = b at *
    generalize x / y = a at *
    push_cast
    grind
  have hp : (y : Int) ≠ 0 := by omega
  rw [e, Int.add_mul_ediv_right _ _ hp, Int.add_mul_emod_self_right, Int.ediv_eq_zero_of_lt (by omega) (by omega), Int.emod_eq_of_lt (by omega) (by omega)]
  exact ⟨Int.zero_add _, rfl⟩
theorem dm_even {x y : Nat} (hr : x % y = 0) : (-(x : Int)) / (y : Int) = -((x / y : Nat) : Int) ∧ (-(x : Int)) % (y : Int) = 0 := by
  have hd : (y : Int) ∣ x := Int.natCast_dvd_natCast.2 (Nat.dvd_of_mod_eq_zero hr)
  refine ⟨by rw [Int.neg_ediv_of_dvd hd, Int.natCast_ediv], Int.emod_eq_zero_of_dvd (Int.dvd_neg.2 hd)⟩
theorem dm_all {a b : Int} (hb : b ≠ 0) (n m : Nat) (h : (a < 0 ∧ a.natAbs % b.natAbs ≠ 0 ∧ n = a.natAbs / b.natAbs + 1 ∧ m = b.natAbs - a.natAbs % b.natAbs) ∨ (¬(a < 0 ∧ a.natAbs % b.natAbs ≠ 0) ∧ n = a.natAbs / b.natAbs ∧ m = a.natAbs % b.natAbs)) :
    a / b = (if decide (a < 0) != decide (b < 0) then -(n : Int) else n) ∧ a % b = m := by
  have key : a / (b.natAbs : Int) = (if a < 0 then -(n : Int) else n) ∧ a % (b.natAbs : Int) = m := by
    have hy : 0 < b.natAbs := by omega
    generalize b.natAbs = y at *
    rcases h with ⟨ha, hr, hn, hm⟩ | ⟨hq, hn, hm⟩
    · have e : a = -(a.natAbs : Int) := by omega
      have d := dm_low hy hr
      rw [← e] at d
      rw [if_pos ha, hn, hm]
      exact d
    · by_cases ha : a < 0
      · have hr : a.natAbs % y = 0 := Classical.byContradiction fun k => hq ⟨ha, k⟩
        have e : a = -(a.natAbs : Int) := by omega
        have d := dm_even hr
        rw [← e] at d
        rw [if_pos ha, hn, hm, hr]
        exact d
      · have e : a = (a.natAbs : Int) := by omega
        rw [if_neg ha, hn, hm]
        generalize a.natAbs = x at *
        subst e
        exact ⟨by rw [Int.natCast_ediv], by rw [Int.natCast_emod]⟩
  by_cases hb0 : b < 0
  · have e : b = -(b.natAbs : Int) := by omega
    generalize b.natAbs = y at *
    subst e
    rw [Int.ediv_neg, Int.emod_neg, key.1, key.2]
    refine ⟨?_, rfl⟩
    by_cases ha : a < 0
    · rw [if_pos ha, if_neg (by rw [decide_eq_true ha, decide_eq_true hb0]; decide)]; omega
    · rw [if_neg ha, if_pos (by rw [decide_eq_false ha, decide_eq_true hb0]; decide)]
  · have e : b = (b.natAbs : Int) := by omega
    generalize b.natAbs = y at *
    subst e
    rw [key.1, key.2]
    refine ⟨?_, rfl⟩
    by_cases ha : a < 0
    · rw [if_pos ha, if_pos (by rw [decide_eq_true ha, decide_eq_false hb0]; decide)]
    · rw [if_neg ha, if_neg (by rw [decide_eq_false ha, decide_eq_false hb0]; decide)]
theorem norm_top {b s : Nat} (hs : s ≤ 31) (hb : b ≠ 0) (h1 : 2147483648 ≤ dg b (ln b - 1) * 2 ^ s) (h2 : dg b (ln b - 1) * 2 ^ s < W32) :
    2147483648 * W32 ^ (ln b - 1) ≤ b * 2 ^ s ∧ b * 2 ^ s < W32 ^ ln b ∧ ln (b * 2 ^ s) = ln b := by
  have hl := lt_ln b
  have hn := ln_pos hb
  generalize ln b = n at *
  obtain ⟨k, rfl⟩ : ∃ k, n = k + 1 := ⟨n - 1, by omega⟩
  rw [Nat.add_sub_cancel] at *
  have hp : 0 < 2 ^ s := Nat.pow_pos (by omega)
  have hW : 0 < W32 ^ k := Nat.pow_pos (by rw [w32_eq]; omega)
  have ht : dg b k = b / W32 ^ k := Nat.mod_eq_of_lt (Nat.div_lt_of_lt_mul (by rw [Nat.pow_succ] at hl; exact hl))
  have m := Nat.div_add_mod b (W32 ^ k)
  have ml := Nat.mod_lt b hW
  rw [← ht] at m
  generalize dg b k = t at *
  have e1 : b * 2 ^ s = t * 2 ^ s * W32 ^ k + b % W32 ^ k * 2 ^ s := by
    conv => lhs; rw [← m]
    rw [Nat.add_mul, Nat.mul_comm (W32 ^ k), Nat.mul_right_comm]
  have l1 : 2147483648 * W32 ^ k ≤ t * 2 ^ s * W32 ^ k := Nat.mul_le_mul_right _ h1
  have c := w32_cut hs
  have h3 : t * 2 ^ s + 2 ^ s ≤ W32 := by
    rw [c, Nat.mul_comm (2 ^ s) (2 ^ (32 - s))] at h2
    have : t < 2 ^ (32 - s) := Nat.lt_of_mul_lt_mul_right h2
    have := Nat.mul_le_mul_right (2 ^ s) this
    rw [Nat.succ_mul] at this
    rw [c, Nat.mul_comm (2 ^ s) (2 ^ (32 - s))]
    exact this
  have l2 : b % W32 ^ k * 2 ^ s < W32 ^ k * 2 ^ s := Nat.mul_lt_mul_of_pos_right ml hp
  have l3 : (t * 2 ^ s + 2 ^ s) * W32 ^ k ≤ W32 * W32 ^ k := Nat.mul_le_mul_right _ h3
  rw [Nat.add_mul, Nat.mul_comm (2 ^ s) (W32 ^ k)] at l3
  have r2 : b * 2 ^ s < W32 ^ (k + 1) := by rw [Nat.pow_succ, Nat.mul_comm (W32 ^ k)]; omega
  refine ⟨by omega, r2, ?_⟩
  have a := ln_le r2
  refine Nat.le_antisymm a (Nat.le_of_not_lt fun h => ?_)
  have h4 := lt_ln (b * 2 ^ s)
  have h5 : W32 ^ ln (b * 2 ^ s) ≤ W32 ^ k := Nat.pow_le_pow_right (by rw [w32_eq]; omega) (by omega)
  omega
end HP

