/- Own texts joined: MnA, MnB, MnD, MnE, MnF. -/
import Derived.Test.YtdjfndfkjbjcpaaGreatDoorNumA
import Derived.Test.YtdjfndfkjbjcpaaGreatDoorPkNumW
/- The points of P1(Z/n): least pairs, their classes and units. -/
namespace HP
def UU (n s : Nat) : Prop := 1 ≤ s ∧ s ≤ n ∧ Nat.gcd s n = 1
def mu (n s x : Nat) : Nat := (s * (x / n) % n) * n + s * (x % n) % n
theorem mu_div {n : Nat} (hn : 0 < n) (s x : Nat) : mu n s x / n = s * (x / n) % n := by
  unfold mu
  rw [Nat.add_comm, Nat.add_mul_div_right _ _ hn, Nat.div_eq_of_lt (Nat.mod_lt _ hn), Nat.zero_add]
theorem mu_mod {n : Nat} (hn : 0 < n) (s x : Nat) : mu n s x % n = s * (x % n) % n := by
  unfold mu
  rw [Nat.add_comm, Nat.add_mul_mod_self_right, Nat.mod_eq_of_lt (Nat.mod_lt _ hn)]
theorem mu_lt {n : Nat} (hn : 0 < n) (s x : Nat) : mu n s x < n * n := by
  unfold mu
  have h1 := Nat.mod_lt (s * (x / n)) hn
  have h2 := Nat.mod_lt (s * (x % n)) hn
  have h3 : (s * (x / n) % n + 1) * n ≤ n * n := Nat.mul_le_mul_right _ h1
  rw [Nat.add_mul, Nat.one_mul] at h3
  omega
theorem mu_mu {n : Nat} (hn : 0 < n) (s t x : Nat) : mu n s (mu n t x) = mu n (s * t) x := by
  unfold mu
  have e1 := mu_div hn t x
  have e2 := mu_mod hn t x
  unfold mu at e1 e2
  rw [e1, e2, Nat.mul_mod_mod, Nat.mul_mod_mod, Nat.mul_assoc, Nat.mul_assoc]
theorem mu_cong {n s t : Nat} (h : s % n = t % n) (x : Nat) : mu n s x = mu n t x := by
  unfold mu
  rw [Nat.mul_mod s, Nat.mul_mod s (x % n), h, ← Nat.mul_mod, ← Nat.mul_mod]
theorem mu_one {n x : Nat} (hx : x < n * n) : mu n 1 x = x := by
  unfold mu
  rw [Nat.one_mul, Nat.one_mul, Nat.mod_mod, Nat.mod_eq_of_lt (Nat.div_lt_of_lt_mul hx), Nat.mul_comm]
  exact Nat.div_add_mod x n
def copB (n x : Nat) : Bool := Nat.gcd (Nat.gcd (x / n) (x % n)) n == 1
theorem cop_iff {n x : Nat} : copB n x = true ↔ Nat.gcd (Nat.gcd (x / n) (x % n)) n = 1 := by unfold copB; rw [beq_iff_eq]
theorem cop_dvd {n x : Nat} : copB n x = true ↔ ∀ d, d ∣ x / n → d ∣ x % n → d ∣ n → d = 1 := by
  rw [cop_iff]
  constructor
  · intro h d h1 h2 h3
    have := Nat.dvd_gcd (Nat.dvd_gcd h1 h2) h3
    rw [h] at this
    exact Nat.dvd_one.1 this
  · intro h
    exact h _ (Nat.dvd_trans (Nat.gcd_dvd_left _ _) (Nat.gcd_dvd_left _ _)) (Nat.dvd_trans (Nat.gcd_dvd_left _ _) (Nat.gcd_dvd_right _ _)) (Nat.gcd_dvd_right _ _)
theorem cop_mu {n s x : Nat} (hn : 0 < n) (hs : Nat.gcd s n = 1) (h : copB n x = true) : copB n (mu n s x) = true := by
  rw [cop_dvd] at h ⊢
  rw [mu_div hn, mu_mod hn]
  intro d h1 h2 h3
  have k1 : d ∣ s * (x / n) := (Nat.dvd_mod_iff h3).1 h1
  have k2 : d ∣ s * (x % n) := (Nat.dvd_mod_iff h3).1 h2
  have hc : Nat.Coprime d s := by
    have : Nat.Coprime s d := Nat.Coprime.coprime_dvd_right h3 hs
    exact this.symm
  exact h d (hc.dvd_of_dvd_mul_left k1) (hc.dvd_of_dvd_mul_left k2) h3
theorem uu_one {n : Nat} (hn : 0 < n) : UU n 1 := ⟨Nat.le_refl _, hn, Nat.gcd_one_left n⟩
theorem uu_of {n s : Nat} (hn : 0 < n) (hs : Nat.gcd s n = 1) : ∃ t, UU n t ∧ t % n = s % n := by
  by_cases h : s % n = 0
  · refine ⟨n, ⟨hn, Nat.le_refl _, ?_⟩, by rw [Nat.mod_self, h]⟩
    have h1 : n ∣ s := Nat.dvd_of_mod_eq_zero h
    have h2 : n ∣ Nat.gcd s n := Nat.dvd_gcd h1 (Nat.dvd_refl n)
    rw [hs] at h2
    rw [Nat.gcd_self]
    exact Nat.dvd_one.1 h2
  · refine ⟨s % n, ⟨by omega, Nat.le_of_lt (Nat.mod_lt _ hn), ?_⟩, Nat.mod_mod _ _⟩
    rw [← Nat.gcd_rec, Nat.gcd_comm]
    exact hs
theorem uu_inv {n s : Nat} (hn : 0 < n) (hs : Nat.gcd s n = 1) : ∃ t, UU n t ∧ t * s % n = 1 % n := by
  have h := invM_mod (a := (s : Int)) (m := (n : Int)) (by omega) hs
  obtain ⟨r1, r2⟩ := invM_range (s : Int) (m := (n : Int)) (by omega)
  obtain ⟨i, hi⟩ := Int.eq_ofNat_of_zero_le r1
  rw [hi] at h
  have e : (s * i) % n = 1 % n := by
    have h2 : ((s : Int) * i) % n = 1 % n := Int.emod_eq_emod_iff_emod_sub_eq_zero.2 (Int.emod_eq_zero_of_dvd h)
    have : (((s * i) % n : Nat) : Int) = ((1 % n : Nat) : Int) := by push_cast; exact h2
    exact Int.ofNat.inj this
  have hg : Nat.gcd i n = 1 := by
    have h1 : Nat.gcd i n ∣ s * i := Nat.dvd_trans (Nat.gcd_dvd_left _ _) (Nat.dvd_mul_left _ _)
    have h2 : Nat.gcd i n ∣ (s * i) % n := (Nat.dvd_mod_iff (Nat.gcd_dvd_right _ _)).2 h1
    rw [e] at h2
    exact Nat.dvd_one.1 ((Nat.dvd_mod_iff (Nat.gcd_dvd_right _ _)).1 h2)
  obtain ⟨t, ht, he⟩ := uu_of hn hg
  refine ⟨t, ht, ?_⟩
  rw [Nat.mul_mod, he, ← Nat.mul_mod, Nat.mul_comm, e]
theorem uu_mul {n s t : Nat} (hn : 0 < n) (hs : Nat.gcd s n = 1) (ht : Nat.gcd t n = 1) : ∃ r, UU n r ∧ r % n = s * t % n := uu_of hn (Nat.Coprime.mul_left hs ht)
theorem mu_back {n s t x y : Nat} (hn : 0 < n) (hx : x < n * n) (h : t * s % n = 1 % n) (e : mu n s x = y) : mu n t y = x := by
  rw [← e, mu_mu hn, mu_cong h, mu_one hx]
def isN (n x : Nat) : Bool := copB n x && (List.range n).all fun s => decide (s < 2) || Nat.gcd s n != 1 || decide (x ≤ mu n s x)
theorem isN_iff {n x : Nat} (hx : x < n * n) : isN n x = true ↔ copB n x = true ∧ ∀ s, UU n s → x ≤ mu n s x := by
  have hn : 0 < n := by
    rcases Nat.eq_zero_or_pos n with h | h
    · rw [h] at hx; omega
    · exact h
  unfold isN
  rw [Bool.and_eq_true, List.all_eq_true]
  constructor
  · rintro ⟨h1, h2⟩
    refine ⟨h1, fun s ⟨s1, s2, s3⟩ => ?_⟩
    by_cases h : s = n
    · subst h
      have : s = 1 := by rw [Nat.gcd_self] at s3; exact s3
      subst this
      rw [mu_one hx]
      exact Nat.le_refl _
    · have := h2 s (List.mem_range.2 (by omega))
      simp only [Bool.or_eq_true, decide_eq_true_eq, bne_iff_ne] at this
      rcases this with (h | h) | h
      · obtain rfl : s = 1 := by omega
        rw [mu_one hx]
        exact Nat.le_refl _
      · exact absurd s3 h
      · exact h
  · rintro ⟨h1, h2⟩
    refine ⟨h1, fun s hs => ?_⟩
    have hs' := List.mem_range.1 hs
    simp only [Bool.or_eq_true, decide_eq_true_eq, bne_iff_ne]
    by_cases g : Nat.gcd s n = 1
    · by_cases g2 : s < 2
      · exact .inl (.inl g2)
      · exact .inr (h2 s ⟨by omega, by omega, g⟩)
    · exact .inl (.inr g)
theorem ex_min {n : Nat} (hn : 0 < n) : ∀ (x : Nat), x < n * n → copB n x = true → ∃ y s, y ≤ x ∧ isN n y = true ∧ UU n s ∧ mu n s y = x := by
  intro x
  induction x using Nat.strongRecOn with
  | _ x ih =>
    intro hx hc
    by_cases h : isN n x = true
    · exact ⟨x, 1, Nat.le_refl _, h, uu_one hn, mu_one hx⟩
    · have h2 : ¬ ∀ s, UU n s → x ≤ mu n s x := fun k => h ((isN_iff hx).2 ⟨hc, k⟩)
      obtain ⟨s, hs⟩ : ∃ s, ¬ (UU n s → x ≤ mu n s x) := Classical.not_forall.1 h2
      have hu : UU n s := Classical.byContradiction fun k => hs fun u => absurd u k
      have hl : mu n s x < x := Nat.lt_of_not_le fun k => hs fun _ => k
      obtain ⟨y, t, y1, y2, y3, y4⟩ := ih _ hl (mu_lt hn _ _) (cop_mu hn hu.2.2 hc)
      obtain ⟨r, r1, r2⟩ := uu_inv hn hu.2.2
      obtain ⟨q, q1, q2⟩ := uu_mul hn r1.2.2 y3.2.2
      refine ⟨y, q, by omega, y2, q1, ?_⟩
      rw [mu_cong q2, ← mu_mu hn, y4]
      exact mu_back hn hx r2 rfl
theorem dvd_sub_of {n a b : Nat} (e : a % n = b % n) : n ∣ b - a := by
  have h1 := Nat.div_add_mod a n
  have h2 := Nat.div_add_mod b n
  have : b - a = n * (b / n) - n * (a / n) := by omega
  rw [this, ← Nat.mul_sub]
  exact Nat.dvd_mul_right _ _
def pts (n : Nat) : List Nat := (List.range (n * n)).filter (isN n)
def cntN (n x : Nat) : Nat := ((List.range x).filter (isN n)).length
theorem cntN_yes {n x : Nat} (h : isN n x = true) : cntN n (x + 1) = cntN n x + 1 := by unfold cntN; rw [List.range_succ, List.filter_append, List.length_append]; simp [h]
theorem pts_pre (n : Nat) : ∀ (m x : Nat), x ≤ m → ((List.range m).filter (isN n)).take (cntN n x) = (List.range x).filter (isN n)
  | 0, x, h => by
    obtain rfl : x = 0 := by omega
    rfl
  | m + 1, x, h => by
    by_cases hx : x = m + 1
    · subst hx
      unfold cntN
      rw [List.take_length]
    · have ih := pts_pre n m x (by omega)
      rw [List.range_succ, List.filter_append, List.take_append_of_le_length, ih]
      have h2 := congrArg List.length ih
      rw [List.length_take] at h2
      unfold cntN at h2 ⊢
      omega
theorem pts_at {n x : Nat} (hx : x < n * n) (h : isN n x = true) : (pts n)[cntN n x]? = some x := by
  have e := pts_pre n (n * n) (x + 1) (by omega)
  rw [cntN_yes h] at e
  have e2 : ((pts n).take (cntN n x + 1))[cntN n x]? = (pts n)[cntN n x]? := by rw [List.getElem?_take, if_pos (by omega)]
  rw [← e2]
  show (((List.range (n * n)).filter (isN n)).take (cntN n x + 1))[cntN n x]? = some x
  rw [e, List.range_succ, List.filter_append, List.getElem?_append_right (show ((List.range x).filter (isN n)).length ≤ cntN n x from Nat.le_refl _)]
  simp [cntN, h]
end HP

/- The place of a pair in the list of P1(Z/n); polynomials under matrices. -/
namespace HP
def Pl (n y j l : Nat) : Prop := UU n l ∧ ∃ x, (pts n)[j]? = some x ∧ mu n l x = y
theorem Pl.lt {n y j l : Nat} (hn : 0 < n) (h : Pl n y j l) : y < n * n ∧ j < (pts n).length := by
  obtain ⟨u, x, hx, e⟩ := h
  exact ⟨e ▸ mu_lt hn _ _, (List.getElem?_eq_some_iff.1 hx).1⟩
theorem Pl.ex {n y : Nat} (hn : 0 < n) (hy : y < n * n) (h : copB n y = true) : ∃ j l, Pl n y j l := by
  obtain ⟨x, s, x1, x2, x3, x4⟩ := ex_min hn y hy h
  exact ⟨cntN n x, s, x3, x, pts_at (by omega) x2, x4⟩
def plc (n y : Nat) : Nat × Nat := (((List.range (pts n).length).flatMap fun j => (List.range n).map fun l => (j, l + 1)).find? fun p => Nat.gcd p.2 n == 1 && mu n p.2 ((pts n).getD p.1 0) == y).getD (0, 0)
def pIx (n y : Nat) : Nat := if copB n y then (plc n y).1 else 0
def pSg (n : Nat) (D : Int) (y : Nat) : Int := if copB n y then kro D ((plc n y).2 : Int) else 0
def tmp (c : Nat → Int) (a b : Int) : Nat → Int
  | 0 => b * c 0
  | i + 1 => a * c i + b * c (i + 1)
end HP

/- Pairs modulo n under matrices; what their places and signs are. -/
namespace HP
def rz (n : Nat) (x : Int) : Nat := (x % n).toNat
def pr (n : Nat) (u v : Int) : Nat := rz n u * n + rz n v
def acP (n x : Nat) (a b c d : Int) : Nat := pr n ((x / n : Nat) * a + (x % n : Nat) * c) ((x / n : Nat) * b + (x % n : Nat) * d)
theorem jac_cong {D : Int} {n a b : Nat} (h0 : D ≠ 0) (h4 : D % 4 = 0 ∨ D % 4 = 1) (hd : D.natAbs ∣ n) (ha : 0 < a) (hb : 0 < b) (h : a % n = b % n) : jac D a = jac D b := by
  have key : ∀ {a b : Nat}, 0 < a → a ≤ b → a % n = b % n → jac D a = jac D b := fun {a b} ha hab h => by
    obtain ⟨q, hq⟩ := dvd_sub_of h
    obtain ⟨k, rfl⟩ := hd
    have e : b = a + (k * q) * D.natAbs := by rw [Nat.mul_comm, ← Nat.mul_assoc]; omega
    rw [e]
    exact (jac_period h0 h4 a (k * q) ha).symm
  rcases Nat.le_total a b with h1 | h1
  · exact key ha h1 h
  · exact (key hb h1 h.symm).symm
theorem kro_nat {D : Int} {l : Nat} (h : 0 < l) : kro D (l : Int) = jac D l := by rw [kro_pos (by omega), Int.toNat_natCast]
theorem Pl.mul {n y j s l : Nat} (hn : 0 < n) (h : Pl n y j s) (hl : UU n l) : ∃ r, Pl n (mu n l y) j r ∧ r % n = l * s % n := by
  obtain ⟨u, x, hx, e⟩ := h
  obtain ⟨r, r1, r2⟩ := uu_mul hn hl.2.2 u.2.2
  exact ⟨r, ⟨r1, x, hx, by rw [mu_cong r2, ← mu_mu hn, e]⟩, r2⟩
end HP

/- THE ACTION IS ONE: symbols times matrices, as vectors. -/
namespace HP
def pt (n j : Nat) : Nat := (pts n).getD j 0
structure Sp40 (n : Nat) (D : Int) : Prop where
  n0 : 0 < n
  dz : D ≠ 0
  d4 : D % 4 = 0 ∨ D % 4 = 1
  dv : D.natAbs ∣ n
end HP

/- Manin symbols: -1, the star involution, mirrors, turns. -/
namespace HP
def jacK (d : Int) (a : Nat) : Int := prodL (fun p e => kr d p ^ e) (facC a)
theorem jac_K {d : Int} {a : Nat} (h1 : 1 ≤ a) (h2 : a ≤ 120) : jac d a = jacK d a := by
  unfold jac jacK
  rw [ext_facs _ _ h1, ← facs_C h1 h2]
def stI (n r : Nat) : Nat := r / (pts n).length * (pts n).length + pIx n (acP n (pt n (r % (pts n).length)) (-1) 0 0 1)
def stS (n : Nat) (D : Int) (r : Nat) : Int := pSg n D (acP n (pt n (r % (pts n).length)) (-1) 0 0 1) * (-1) ^ (r / (pts n).length)
end HP

