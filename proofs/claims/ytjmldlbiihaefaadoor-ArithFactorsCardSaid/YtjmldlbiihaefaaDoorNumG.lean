import Derived.Test.YtjmldlbiihaefaaDoorNumF
/-! Plain number theory, seventh part: inverses, the Chinese remainder theorem. -/
namespace HP

/-- the inverse of a modulo m, and 0 if there is none -/
def invM (a m : Int) : Int := ((((List.range m.toNat).find? (fun (x : Nat) => (a * x - 1) % m = 0)).getD 0 : Nat) : Int)

theorem small_dvd {m x : Int} (hd : m ∣ x) (h1 : x < m) (h2 : -m < x) : x = 0 := by
  obtain ⟨k, hk⟩ := hd
  rcases Int.lt_trichotomy k 0 with h4 | h4 | h4
  · have : m * k ≤ m * (-1) := Int.mul_le_mul_of_nonneg_left (by omega) (by omega)
    omega
  · subst h4; omega
  · have : m * 1 ≤ m * k := Int.mul_le_mul_of_nonneg_left (by omega) (by omega)
    omega
theorem inv_unique {a m x y : Int} (hx : 0 ≤ x ∧ x < m ∧ m ∣ a * x - 1) (hy : 0 ≤ y ∧ y < m ∧ m ∣ a * y - 1) : x = y := by
  obtain ⟨x1, x2, k, hk⟩ := hx
  obtain ⟨y1, y2, l, hl⟩ := hy
  have := small_dvd (m := m) (x := x - y) ⟨y * k - x * l, by grind⟩ (by omega) (by omega)
  omega
theorem invM_eq {a m x : Int} (h0 : 0 ≤ x) (h1 : x < m) (h : m ∣ a * x - 1) : invM a m = x := by
  unfold invM
  have hx : ((List.range m.toNat).find? (fun (x : Nat) => (a * x - 1) % m = 0)).isSome := by
    rw [List.find?_isSome]
    refine ⟨x.toNat, List.mem_range.2 (by omega), ?_⟩
    rw [Int.toNat_of_nonneg h0]
    simpa using Int.emod_eq_zero_of_dvd h
  obtain ⟨y, hy⟩ := Option.isSome_iff_exists.1 hx
  rw [hy]
  have h2 := List.find?_some hy
  have h3 := List.mem_range.1 (List.mem_of_find?_eq_some hy)
  simp only [decide_eq_true_eq] at h2
  exact inv_unique ⟨by simp, by simp; omega, by simpa using Int.dvd_of_emod_eq_zero h2⟩ ⟨h0, h1, h⟩
theorem invM_range (a : Int) {m : Int} (hm : 0 < m) : 0 ≤ invM a m ∧ invM a m < m := by
  unfold invM
  cases h : (List.range m.toNat).find? (fun (x : Nat) => (a * x - 1) % m = 0) with
  | none => exact ⟨by simp, by simpa using hm⟩
  | some y =>
    have h3 := List.mem_range.1 (List.mem_of_find?_eq_some h)
    exact ⟨by simp, by simp; omega⟩

/-- a cofactor is an inverse -/
theorem xu_inv {a b u : Int} (hb : 0 < b) (h : XU a b u) : u = invM (a / Int.gcd a b) (b / Int.gcd a b) := by
  obtain ⟨h1, h2, k, hk⟩ := h
  have hg : 0 < Int.gcd a b := Int.gcd_pos_of_ne_zero_right a (by omega)
  have hga : ((Int.gcd a b : Nat) : Int) ∣ a := Int.gcd_dvd_left ..
  have hgb : ((Int.gcd a b : Nat) : Int) ∣ b := Int.gcd_dvd_right ..
  rw [show (b.natAbs : Int) = b by omega] at h2
  generalize hG : ((Int.gcd a b : Nat) : Int) = G at *
  obtain ⟨s, rfl⟩ := hga
  obtain ⟨t, rfl⟩ := hgb
  have hG0 : 0 < G := by omega
  rw [Int.mul_ediv_cancel_left _ (by omega)] at h2 ⊢
  rw [Int.mul_ediv_cancel_left _ (by omega)]
  refine (invM_eq h1 h2 ⟨-k, ?_⟩).symm
  have : G * (s * u - 1) = G * (t * -k) := by grind
  exact Int.eq_of_mul_eq_mul_left (by omega) this
theorem xu_dvd {a b u : Int} (h : XU a b u) : b ∣ (Int.gcd a b : Int) - u * a := h.2.2

/-! the Chinese remainder theorem -/
/-- one step: the congruence c.1 modulo c.2 and another one; the errors as in the program -/
def crtStep (c : Int × Int) (r m : Int) : Except Int (Int × Int) :=
  if m < 1 ∨ 2147483647 < m then .error 2
  else if (r % m - c.1) % (Int.gcd c.2 m : Int) ≠ 0 then .error 24
  else if 2147483647 / (m / (Int.gcd c.2 m : Int)) < c.2 then .error 7
  else .ok (c.1 + c.2 * (((r % m - c.1) / (Int.gcd c.2 m : Int) % (m / (Int.gcd c.2 m : Int))) * invM (c.2 / (Int.gcd c.2 m : Int)) (m / (Int.gcd c.2 m : Int)) % (m / (Int.gcd c.2 m : Int))), c.2 * (m / (Int.gcd c.2 m : Int)))
def crt (c : Int × Int) : List (Int × Int) → Except Int (Int × Int)
  | [] => .ok c
  | (r, m) :: l => match crtStep c r m with
    | .ok c' => crt c' l
    | .error e => .error e
/-- as the program hands it back -/
def crtOut : Except Int (Int × Int) → Int × Int × Int
  | .ok c => (c.1, c.2, 0)
  | .error e => (0, 0, e)
/-- a reduced congruence within the range -/
def CrtOk (c : Int × Int) : Prop := 0 ≤ c.1 ∧ c.1 < c.2 ∧ c.2 ≤ 2147483647

theorem crt_drop {c : Int × Int} {l : List (Int × Int)} {k : Nat} {r m : Int} (h : l[k]? = some (r, m)) :
    crt c (l.drop k) = match crtStep c r m with | .ok c' => crt c' (l.drop (k + 1)) | .error e => .error e := by
  obtain ⟨hk, he⟩ := List.getElem?_eq_some_iff.1 h
  rw [List.drop_eq_getElem_cons hk, he]
  rfl
theorem crt_err {c : Int × Int} {l : List (Int × Int)} {k : Nat} {r m e : Int} (h : l[k]? = some (r, m)) (hs : crtStep c r m = .error e) : crt c (l.drop k) = .error e := by
  rw [crt_drop h, hs]
theorem crt_ok {c c' : Int × Int} {l : List (Int × Int)} {k : Nat} {r m : Int} (h : l[k]? = some (r, m)) (hs : crtStep c r m = .ok c') : crt c (l.drop k) = crt c' (l.drop (k + 1)) := by
  rw [crt_drop h, hs]
theorem crtStep_2 {c : Int × Int} {r m : Int} (h : m < 1 ∨ 2147483647 < m) : crtStep c r m = .error 2 := by unfold crtStep; rw [if_pos h]
theorem crtStep_24 {c : Int × Int} {r m : Int} (h : 1 ≤ m ∧ m ≤ 2147483647) (hd : ¬ (r % m - c.1) % (Int.gcd c.2 m : Int) = 0) : crtStep c r m = .error 24 := by
  unfold crtStep; rw [if_neg (by omega), if_pos hd]
theorem crtStep_7 {c : Int × Int} {r m : Int} (h : 1 ≤ m ∧ m ≤ 2147483647) (hd : (r % m - c.1) % (Int.gcd c.2 m : Int) = 0) (hl : 2147483647 / (m / (Int.gcd c.2 m : Int)) < c.2) : crtStep c r m = .error 7 := by
  unfold crtStep; rw [if_neg (by omega), if_neg (fun x => x hd), if_pos hl]
theorem crtStep_ok {c : Int × Int} {r m : Int} (h : 1 ≤ m ∧ m ≤ 2147483647) (hd : (r % m - c.1) % (Int.gcd c.2 m : Int) = 0) (hl : ¬ 2147483647 / (m / (Int.gcd c.2 m : Int)) < c.2) :
    crtStep c r m = .ok (c.1 + c.2 * (((r % m - c.1) / (Int.gcd c.2 m : Int) % (m / (Int.gcd c.2 m : Int))) * invM (c.2 / (Int.gcd c.2 m : Int)) (m / (Int.gcd c.2 m : Int)) % (m / (Int.gcd c.2 m : Int))), c.2 * (m / (Int.gcd c.2 m : Int))) := by
  unfold crtStep; rw [if_neg (by omega), if_neg (fun x => x hd), if_neg hl]
theorem crt_range {c : Int × Int} {s k : Int} (hc : CrtOk c) (hs : 1 ≤ s) (hk0 : 0 ≤ k) (hk1 : k < s) (hM : c.2 ≤ 2147483647 / s) :
    CrtOk (c.1 + c.2 * k, c.2 * s) ∧ 0 ≤ c.2 * k ∧ c.2 * k ≤ 2147483647 ∧ 0 ≤ c.2 * s ∧ c.2 * s ≤ 2147483647 := by
  obtain ⟨h1, h2, h3⟩ := hc
  have e1 : c.2 * s ≤ 2147483647 := by
    have := Int.mul_le_mul_of_nonneg_right hM (show 0 ≤ s by omega)
    have h4 := Int.ediv_mul_le 2147483647 (show s ≠ 0 by omega)
    omega
  have e2 : c.2 * k ≤ c.2 * (s - 1) := Int.mul_le_mul_of_nonneg_left (by omega) (by omega)
  have e3 : c.2 * (s - 1) = c.2 * s - c.2 := by grind
  have e4 : 0 ≤ c.2 * k := Int.mul_nonneg (by omega) hk0
  have e5 : 0 ≤ c.2 * s := Int.mul_nonneg (by omega) (by omega)
  exact ⟨⟨by simp only; omega, by simp only; omega, e1⟩, e4, by omega, e5, e1⟩
theorem div_pos_le {m G : Int} (hG : 0 < G) (hm : 0 < m) (hd : G ∣ m) : 0 < m / G ∧ m / G ≤ m := by
  obtain ⟨q, rfl⟩ := hd
  rw [Int.mul_ediv_cancel_left _ (by omega)]
  have h : 0 < q := Int.pos_of_mul_pos_right hm (by omega) |> fun h => h
  refine ⟨h, ?_⟩
  have := Int.mul_le_mul_of_nonneg_right (show 1 ≤ G by omega) (show 0 ≤ q by omega)
  omega
theorem tmod_zero_iff {d G : Int} : d.tmod G = 0 ↔ d % G = 0 := by
  constructor
  · intro h; exact Int.emod_eq_zero_of_dvd (Int.dvd_of_tmod_eq_zero h)
  · intro h; exact Int.tmod_eq_zero_of_dvd (Int.dvd_of_emod_eq_zero h)
theorem mul_bd {x y : Int} (hx0 : 0 ≤ x) (hx : x ≤ 2147483647) (hy0 : 0 ≤ y) (hy : y ≤ 2147483647) : 0 ≤ x * y ∧ x * y ≤ 4611686014132420609 := by
  refine ⟨Int.mul_nonneg hx0 hy0, ?_⟩
  have := Int.mul_le_mul_of_nonneg_right hx hy0
  omega
end HP
