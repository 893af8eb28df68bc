/- Own texts joined: MnA, MnB, MnC, MnD, MnE, MnF. -/
import Derived.Test.YtedfcemebdlgfaaDoorNumA
import Derived.Test.YtedfcemebdlgfaaDoorPkNumW
/- The points of P1(Z/n): least pairs, their classes and units. -/
namespace HP
/-- a unit modulo n, written from 1 to n -/
def UU (n s : Nat) : Prop := 1 ≤ s ∧ s ≤ n ∧ Nat.gcd s n = 1
/-- the pair that is written as x = u n + v, times s -/
def mu (n s x : Nat) : Nat := (s * (x / n) % n) * n + s * (x % n) % n
theorem mu_div {n : Nat} (hn : 0 < n) (s x : Nat) : mu n s x / n = s * (x / n) % n := by
  unfold mu
  rw [Nat.add_comm, Nat.add_mul_div_right _ _ hn, Nat.div_eq_of_lt (Nat.mod_lt _ hn), Nat.zero_add]
theorem mu_mod {n : Nat} (hn : 0 < n) (s x : Nat) : mu n s x % n = s * (x % n) % n := by
  unfold mu
  rw [Nat.add_comm, Nat.add_mul_mod_self_right, Nat.mod_eq_of_lt (Nat.mod_lt _ hn)]
theorem mu_lt {n : Nat} (hn : 0 < n) (s x : Nat) : mu n s x < n * n := by
  unfold mu
  have h1 := Nat.mod_lt (s * (x / n)) hn
  have h2 := Nat.mod_lt (s * (x % n)) hn
  have h3 : (s * (x / n) % n + 1) * n ≤ n * n := Nat.mul_le_mul_right _ h1
  rw [Nat.add_mul, Nat.one_mul] at h3
  omega
theorem mu_mu {n : Nat} (hn : 0 < n) (s t x : Nat) : mu n s (mu n t x) = mu n (s * t) x := by
  unfold mu
  have e1 := mu_div hn t x
  have e2 := mu_mod hn t x
  unfold mu at e1 e2
  rw [e1, e2, Nat.mul_mod_mod, Nat.mul_mod_mod, Nat.mul_assoc, Nat.mul_assoc]
theorem mu_cong {n s t : Nat} (h : s % n = t % n) (x : Nat) : mu n s x = mu n t x := by
  unfold mu
  rw [Nat.mul_mod s, Nat.mul_mod s (x % n), h, ← Nat.mul_mod, ← Nat.mul_mod]
theorem mu_one {n x : Nat} (hx : x < n * n) : mu n 1 x = x := by
  unfold mu
  rw [Nat.one_mul, Nat.one_mul, Nat.mod_mod, Nat.mod_eq_of_lt (Nat.div_lt_of_lt_mul hx), Nat.mul_comm]
  exact Nat.div_add_mod x n
/-- the pair is one of P1 -/
def copB (n x : Nat) : Bool := Nat.gcd (Nat.gcd (x / n) (x % n)) n == 1
theorem cop_iff {n x : Nat} : copB n x = true ↔ Nat.gcd (Nat.gcd (x / n) (x % n)) n = 1 := by unfold copB; rw [beq_iff_eq]
theorem cop_dvd {n x : Nat} : copB n x = true ↔ ∀ d, d ∣ x / n → d ∣ x % n → d ∣ n → d = 1 := by
  rw [cop_iff]
  constructor
  · intro h d h1 h2 h3
    have := Nat.dvd_gcd (Nat.dvd_gcd h1 h2) h3
    rw [h] at this
    exact Nat.dvd_one.1 this
  · intro h
    exact h _ (Nat.dvd_trans (Nat.gcd_dvd_left _ _) (Nat.gcd_dvd_left _ _)) (Nat.dvd_trans (Nat.gcd_dvd_left _ _) (Nat.gcd_dvd_right _ _)) (Nat.gcd_dvd_right _ _)
theorem cop_mu {n s x : Nat} (hn : 0 < n) (hs : Nat.gcd s n = 1) (h : copB n x = true) : copB n (mu n s x) = true := by
  rw [cop_dvd] at h ⊢
  rw [mu_div hn, mu_mod hn]
  intro d h1 h2 h3
  have k1 : d ∣ s * (x / n) := (Nat.dvd_mod_iff h3).1 h1
  have k2 : d ∣ s * (x % n) := (Nat.dvd_mod_iff h3).1 h2
  have hc : Nat.Coprime d s := by
    have : Nat.Coprime s d := Nat.Coprime.coprime_dvd_right h3 hs
    exact this.symm
  exact h d (hc.dvd_of_dvd_mul_left k1) (hc.dvd_of_dvd_mul_left k2) h3
theorem uu_one {n : Nat} (hn : 0 < n) : UU n 1 := ⟨Nat.le_refl _, hn, Nat.gcd_one_left n⟩
theorem uu_of {n s : Nat} (hn : 0 < n) (hs : Nat.gcd s n = 1) : ∃ t, UU n t ∧ t % n = s % n := by
  by_cases h : s % n = 0
  · refine ⟨n, ⟨hn, Nat.le_refl _, ?_⟩, by rw [Nat.mod_self, h]⟩
    have h1 : n ∣ s := Nat.dvd_of_mod_eq_zero h
    have h2 : n ∣ Nat.gcd s n := Nat.dvd_gcd h1 (Nat.dvd_refl n)
    rw [hs] at h2
    rw [Nat.gcd_self]
    exact Nat.dvd_one.1 h2
  · refine ⟨s % n, ⟨by omega, Nat.le_of_lt (Nat.mod_lt _ hn), ?_⟩, Nat.mod_mod _ _⟩
    rw [← Nat.gcd_rec, Nat.gcd_comm]
    exact hs
theorem uu_inv {n s : Nat} (hn : 0 < n) (hs : Nat.gcd s n = 1) : ∃ t, UU n t ∧ t * s % n = 1 % n := by
  have h := invM_mod (a := (s : Int)) (m := (n : Int)) (by omega) hs
  obtain ⟨r1, r2⟩ := invM_range (s : Int) (m := (n : Int)) (by omega)
  obtain ⟨i, hi⟩ := Int.eq_ofNat_of_zero_le r1
  rw [hi] at h
  have e : (s * i) % n = 1 % n := by
    have h2 : ((s : Int) * i) % n = 1 % n := Int.emod_eq_emod_iff_emod_sub_eq_zero.2 (Int.emod_eq_zero_of_dvd h)
    have : (((s * i) % n : Nat) : Int) = ((1 % n : Nat) : Int) := by push_cast; exact h2
    exact Int.ofNat.inj this
  have hg : Nat.gcd i n = 1 := by
    have h1 : Nat.gcd i n ∣ s * i := Nat.dvd_trans (Nat.gcd_dvd_left _ _) (Nat.dvd_mul_left _ _)
    have h2 : Nat.gcd i n ∣ (s * i) % n := (Nat.dvd_mod_iff (Nat.gcd_dvd_right _ _)).2 h1
    rw [e] at h2
    exact Nat.dvd_one.1 ((Nat.dvd_mod_iff (Nat.gcd_dvd_right _ _)).1 h2)
  obtain ⟨t, ht, he⟩ := uu_of hn hg
  refine ⟨t, ht, ?_⟩
  rw [Nat.mul_mod, he, ← Nat.mul_mod, Nat.mul_comm, e]
theorem uu_mul {n s t : Nat} (hn : 0 < n) (hs : Nat.gcd s n = 1) (ht : Nat.gcd t n = 1) : ∃ r, UU n r ∧ r % n = s * t % n := uu_of hn (Nat.Coprime.mul_left hs ht)
/-- back by the inverse -/
theorem mu_back {n s t x y : Nat} (hn : 0 < n) (hx : x < n * n) (h : t * s % n = 1 % n) (e : mu n s x = y) : mu n t y = x := by
  rw [← e, mu_mu hn, mu_cong h, mu_one hx]
/-- the least pair of its class -/
def isN (n x : Nat) : Bool := copB n x && (List.range n).all fun s => decide (s < 2) || Nat.gcd s n != 1 || decide (x ≤ mu n s x)
theorem isN_iff {n x : Nat} (hx : x < n * n) : isN n x = true ↔ copB n x = true ∧ ∀ s, UU n s → x ≤ mu n s x := by
  have hn : 0 < n := by
    rcases Nat.eq_zero_or_pos n with h | h
    · rw [h] at hx; omega
    · exact h
  unfold isN
  rw [Bool.and_eq_true, List.all_eq_true]
  constructor
  · rintro ⟨h1, h2⟩
    refine ⟨h1, fun s ⟨s1, s2, s3⟩ => ?_⟩
    by_cases h : s = n
    · subst h
      have : s = 1 := by rw [Nat.gcd_self] at s3; exact s3
      subst this
      rw [mu_one hx]
      exact Nat.le_refl _
    · have := h2 s (List.mem_range.2 (by omega))
      simp only [Bool.or_eq_true, decide_eq_true_eq, bne_iff_ne] at this
      rcases this with (h | h) | h
      · obtain rfl : s = 1 := by omega
        rw [mu_one hx]
        exact Nat.le_refl _
      · exact absurd s3 h
      · exact h
  · rintro ⟨h1, h2⟩
    refine ⟨h1, fun s hs => ?_⟩
    have hs' := List.mem_range.1 hs
    simp only [Bool.or_eq_true, decide_eq_true_eq, bne_iff_ne]
    by_cases g : Nat.gcd s n = 1
    · by_cases g2 : s < 2
      · exact .inl (.inl g2)
      · exact .inr (h2 s ⟨by omega, by omega, g⟩)
    · exact .inl (.inr g)
theorem isN_cop {n x : Nat} (h : isN n x = true) : copB n x = true := by unfold isN at h; rw [Bool.and_eq_true] at h; exact h.1
theorem ex_min {n : Nat} (hn : 0 < n) : ∀ (x : Nat), x < n * n → copB n x = true → ∃ y s, y ≤ x ∧ isN n y = true ∧ UU n s ∧ mu n s y = x := by
  intro x
  induction x using Nat.strongRecOn with
  | _ x ih =>
    intro hx hc
    by_cases h : isN n x = true
    · exact ⟨x, 1, Nat.le_refl _, h, uu_one hn, mu_one hx⟩
    · have h2 : ¬ ∀ s, UU n s → x ≤ mu n s x := fun k => h ((isN_iff hx).2 ⟨hc, k⟩)
      obtain ⟨s, hs⟩ : ∃ s, ¬ (UU n s → x ≤ mu n s x) := Classical.not_forall.1 h2
      have hu : UU n s := Classical.byContradiction fun k => hs fun u => absurd u k
      have hl : mu n s x < x := Nat.lt_of_not_le fun k => hs fun _ => k
      obtain ⟨y, t, y1, y2, y3, y4⟩ := ih _ hl (mu_lt hn _ _) (cop_mu hn hu.2.2 hc)
      obtain ⟨r, r1, r2⟩ := uu_inv hn hu.2.2
      obtain ⟨q, q1, q2⟩ := uu_mul hn r1.2.2 y3.2.2
      refine ⟨y, q, by omega, y2, q1, ?_⟩
      rw [mu_cong q2, ← mu_mu hn, y4]
      exact mu_back hn hx r2 rfl
theorem isN_uniq {n x y s : Nat} (hn : 0 < n) (hx : x < n * n) (hy : y < n * n) (h1 : isN n x = true) (h2 : isN n y = true) (hs : UU n s) (e : mu n s x = y) : x = y := by
  have k1 := ((isN_iff hx).1 h1).2 s hs
  obtain ⟨t, t1, t2⟩ := uu_inv hn hs.2.2
  have k2 := ((isN_iff hy).1 h2).2 t t1
  rw [mu_back hn hx t2 e] at k2
  omega
theorem dvd_sub_of {n a b : Nat} (e : a % n = b % n) : n ∣ b - a := by
  have h1 := Nat.div_add_mod a n
  have h2 := Nat.div_add_mod b n
  have : b - a = n * (b / n) - n * (a / n) := by omega
  rw [this, ← Nat.mul_sub]
  exact Nat.dvd_mul_right _ _
theorem unit_uniq {n x s t : Nat} (hn : 0 < n) (hc : copB n x = true) (hs : UU n s) (ht : UU n t) (e : mu n s x = mu n t x) : s = t := by
  have key : ∀ {s t : Nat}, UU n s → UU n t → mu n s x = mu n t x → ¬ s < t := fun {s t} hs ht e hlt => by
    have e1 : s * (x / n) % n = t * (x / n) % n := by rw [← mu_div hn, ← mu_div hn, e]
    have e2 : s * (x % n) % n = t * (x % n) % n := by rw [← mu_mod hn, ← mu_mod hn, e]
    have d1 : n ∣ (t - s) * (x / n) := by rw [Nat.sub_mul]; exact dvd_sub_of e1
    have d2 : n ∣ (t - s) * (x % n) := by rw [Nat.sub_mul]; exact dvd_sub_of e2
    have d3 : n ∣ (t - s) * Nat.gcd (x / n) (x % n) := by rw [← Nat.gcd_mul_left]; exact Nat.dvd_gcd d1 d2
    have hcc : Nat.Coprime n (Nat.gcd (x / n) (x % n)) := (Nat.gcd_comm _ _).trans (cop_iff.1 hc)
    have d4 := hcc.dvd_of_dvd_mul_right d3
    have := Nat.le_of_dvd (by omega) d4
    have := hs.1
    have := ht.2.1
    omega
  have := key hs ht e
  have := key ht hs e.symm
  omega
/-- what is seen when the pairs before x are done -/
def Seen (n x y : Nat) : Prop := ∃ z s, z < x ∧ isN n z = true ∧ UU n s ∧ mu n s z = y
theorem seen_new {n x : Nat} (hn : 0 < n) (hx : x < n * n) (h : isN n x = true) : ¬ Seen n x x := by
  rintro ⟨z, s, z1, z2, z3, z4⟩
  have := isN_uniq hn (by omega) hx z2 h z3 z4
  omega
theorem seen_old {n x : Nat} (hn : 0 < n) (hx : x < n * n) (h : isN n x = false) (hc : copB n x = true) : Seen n x x := by
  obtain ⟨y, s, y1, y2, y3, y4⟩ := ex_min hn x hx hc
  have : y ≠ x := fun e => by rw [e, h] at y2; cases y2
  exact ⟨y, s, by omega, y2, y3, y4⟩
/-- the list of the points -/
def pts (n : Nat) : List Nat := (List.range (n * n)).filter (isN n)
/-- how many of them lie before x -/
def cntN (n x : Nat) : Nat := ((List.range x).filter (isN n)).length
theorem cntN_end (n : Nat) : cntN n (n * n) = (pts n).length := rfl
theorem cntN_yes {n x : Nat} (h : isN n x = true) : cntN n (x + 1) = cntN n x + 1 := by unfold cntN; rw [List.range_succ, List.filter_append, List.length_append]; simp [h]
theorem cntN_no {n x : Nat} (h : isN n x = false) : cntN n (x + 1) = cntN n x := by unfold cntN; rw [List.range_succ, List.filter_append, List.length_append]; simp [h]
theorem cntN_le (n : Nat) : ∀ x, cntN n x ≤ x
  | 0 => Nat.le_refl _
  | x + 1 => by
    have := cntN_le n x
    cases h : isN n x with
    | true => rw [cntN_yes h]; omega
    | false => rw [cntN_no h]; omega
theorem pts_pre (n : Nat) : ∀ (m x : Nat), x ≤ m → ((List.range m).filter (isN n)).take (cntN n x) = (List.range x).filter (isN n)
  | 0, x, h => by
    obtain rfl : x = 0 := by omega
    rfl
  | m + 1, x, h => by
    by_cases hx : x = m + 1
    · subst hx
      unfold cntN
      rw [List.take_length]
    · have ih := pts_pre n m x (by omega)
      rw [List.range_succ, List.filter_append, List.take_append_of_le_length, ih]
      have h2 := congrArg List.length ih
      rw [List.length_take] at h2
      unfold cntN at h2 ⊢
      omega
theorem pts_at {n x : Nat} (hx : x < n * n) (h : isN n x = true) : (pts n)[cntN n x]? = some x := by
  have e := pts_pre n (n * n) (x + 1) (by omega)
  rw [cntN_yes h] at e
  have e2 : ((pts n).take (cntN n x + 1))[cntN n x]? = (pts n)[cntN n x]? := by rw [List.getElem?_take, if_pos (by omega)]
  rw [← e2]
  show (((List.range (n * n)).filter (isN n)).take (cntN n x + 1))[cntN n x]? = some x
  rw [e, List.range_succ, List.filter_append, List.getElem?_append_right (show ((List.range x).filter (isN n)).length ≤ cntN n x from Nat.le_refl _)]
  simp [cntN, h]
theorem cntN_lt {n x : Nat} (hx : x < n * n) (h : isN n x = true) : cntN n x < (pts n).length := by
  have := pts_at hx h
  obtain ⟨h1, _⟩ := List.getElem?_eq_some_iff.1 this
  exact h1
theorem pts_mem {n x : Nat} : x ∈ pts n ↔ x < n * n ∧ isN n x = true := by unfold pts; rw [List.mem_filter, List.mem_range]
theorem pts_nodup (n : Nat) : (pts n).Nodup := List.nodup_range.filter _
end HP

/- The place of a pair in the list of P1(Z/n); polynomials under matrices. -/
namespace HP
/-- y is the point number j, times l -/
def Pl (n y j l : Nat) : Prop := UU n l ∧ ∃ x, (pts n)[j]? = some x ∧ mu n l x = y
theorem pts_num {n j x : Nat} (h : (pts n)[j]? = some x) : x < n * n ∧ isN n x = true ∧ j = cntN n x := by
  have hm := pts_mem.1 (List.mem_of_getElem? h)
  refine ⟨hm.1, hm.2, ?_⟩
  have h2 := pts_at hm.1 hm.2
  obtain ⟨l1, _⟩ := List.getElem?_eq_some_iff.1 h
  exact (List.getElem?_inj l1 (pts_nodup n)).1 (h.trans h2.symm)
theorem Pl.uniq {n y j l j' l' : Nat} (hn : 0 < n) (h : Pl n y j l) (k : Pl n y j' l') : j = j' ∧ l = l' := by
  obtain ⟨u, x, hx, e⟩ := h
  obtain ⟨u', x', hx', e'⟩ := k
  obtain ⟨a1, a2, a3⟩ := pts_num hx
  obtain ⟨b1, b2, b3⟩ := pts_num hx'
  have hxx : x = x' := by
    obtain ⟨t, t1, t2⟩ := uu_inv hn u'.2.2
    obtain ⟨r, r1, r2⟩ := uu_mul hn t1.2.2 u.2.2
    refine isN_uniq hn a1 b1 a2 b2 r1 ?_
    rw [mu_cong r2, ← mu_mu hn, e]
    exact mu_back hn b1 t2 e'
  subst hxx
  exact ⟨a3.trans b3.symm, unit_uniq hn (isN_cop a2) u u' (e.trans e'.symm)⟩
theorem Pl.cop {n y j l : Nat} (hn : 0 < n) (h : Pl n y j l) : copB n y = true := by
  obtain ⟨u, x, hx, e⟩ := h
  rw [← e]
  exact cop_mu hn u.2.2 (isN_cop (pts_num hx).2.1)
theorem Pl.lt {n y j l : Nat} (hn : 0 < n) (h : Pl n y j l) : y < n * n ∧ j < (pts n).length := by
  obtain ⟨u, x, hx, e⟩ := h
  exact ⟨e ▸ mu_lt hn _ _, (List.getElem?_eq_some_iff.1 hx).1⟩
theorem Pl.ex {n y : Nat} (hn : 0 < n) (hy : y < n * n) (h : copB n y = true) : ∃ j l, Pl n y j l := by
  obtain ⟨x, s, x1, x2, x3, x4⟩ := ex_min hn y hy h
  exact ⟨cntN n x, s, x3, x, pts_at (by omega) x2, x4⟩
/-- the place of a pair, by search -/
def plc (n y : Nat) : Nat × Nat := (((List.range (pts n).length).flatMap fun j => (List.range n).map fun l => (j, l + 1)).find? fun p => Nat.gcd p.2 n == 1 && mu n p.2 ((pts n).getD p.1 0) == y).getD (0, 0)
theorem plc_of {n y j l : Nat} (hn : 0 < n) (h : Pl n y j l) : plc n y = (j, l) := by
  unfold plc
  have hh := h
  obtain ⟨u, x, hx, e⟩ := h
  obtain ⟨hj, hx2⟩ := List.getElem?_eq_some_iff.1 hx
  have hm : (j, l) ∈ (List.range (pts n).length).flatMap fun j => (List.range n).map fun l => (j, l + 1) := by
    rw [List.mem_flatMap]
    exact ⟨j, List.mem_range.2 hj, List.mem_map.2 ⟨l - 1, List.mem_range.2 (by have := u.1; have := u.2.1; omega), by have := u.1; congr 1; omega⟩⟩
  have hp : (fun p : Nat × Nat => Nat.gcd p.2 n == 1 && mu n p.2 ((pts n).getD p.1 0) == y) (j, l) = true := by
    simp only [Bool.and_eq_true, beq_iff_eq]
    refine ⟨u.2.2, ?_⟩
    rw [List.getD_eq_getElem?_getD, hx]
    exact e
  cases hf : (((List.range (pts n).length).flatMap fun j => (List.range n).map fun l => (j, l + 1)).find? fun p => Nat.gcd p.2 n == 1 && mu n p.2 ((pts n).getD p.1 0) == y) with
  | none => exact absurd hp (by have := List.find?_eq_none.1 hf _ hm; exact this)
  | some q =>
    have q1 := List.find?_some hf
    have q2 := List.mem_of_find?_eq_some hf
    simp only [Bool.and_eq_true, beq_iff_eq] at q1
    rw [List.mem_flatMap] at q2
    obtain ⟨j', hj', hq⟩ := q2
    obtain ⟨l', hl', rfl⟩ := List.mem_map.1 hq
    have hj2 := List.mem_range.1 hj'
    have hl2 := List.mem_range.1 hl'
    have k : Pl n y j' (l' + 1) := by
      refine ⟨⟨by omega, by omega, q1.1⟩, (pts n)[j'], List.getElem?_eq_getElem hj2, ?_⟩
      have := q1.2
      rw [List.getD_eq_getElem?_getD, List.getElem?_eq_getElem hj2] at this
      exact this
    obtain ⟨r1, r2⟩ := hh.uniq hn k
    show (j', l' + 1) = (j, l)
    rw [r1, r2]
theorem plc_pl {n y : Nat} (hn : 0 < n) (hy : y < n * n) (h : copB n y = true) : Pl n y (plc n y).1 (plc n y).2 := by
  obtain ⟨j, l, k⟩ := Pl.ex hn hy h
  rw [plc_of hn k]
  exact k
/-- index and sign of a pair -/
def pIx (n y : Nat) : Nat := if copB n y then (plc n y).1 else 0
def pSg (n : Nat) (D : Int) (y : Nat) : Int := if copB n y then kro D ((plc n y).2 : Int) else 0
theorem pIx_of {n y j l : Nat} (hn : 0 < n) (h : Pl n y j l) : pIx n y = j := by unfold pIx; rw [if_pos (h.cop hn), plc_of hn h]
theorem pSg_of {n y j l : Nat} {D : Int} (hn : 0 < n) (h : Pl n y j l) : pSg n D y = kro D l := by unfold pSg; rw [if_pos (h.cop hn), plc_of hn h]
theorem pIx_no {n y : Nat} (h : copB n y = false) : pIx n y = 0 := by unfold pIx; rw [if_neg (by rw [h]; exact Bool.false_ne_true)]
theorem pSg_no {n y : Nat} {D : Int} (h : copB n y = false) : pSg n D y = 0 := by unfold pSg; rw [if_neg (by rw [h]; exact Bool.false_ne_true)]
theorem pIx_lt {n y : Nat} (hn : 0 < n) (hy : y < n * n) (h : copB n y = true) : pIx n y < (pts n).length := by
  have := (plc_pl hn hy h).lt hn
  unfold pIx
  rw [if_pos h]
  exact this.2
/-- a polynomial in X (the power of Y fills up) times a X + b Y -/
def tmp (c : Nat → Int) (a b : Int) : Nat → Int
  | 0 => b * c 0
  | i + 1 => a * c i + b * c (i + 1)
/-- (aX + bY)^i (cX + dY)^(w-i), times s -/
def plm (s : Int) (i : Nat) (a b c d : Int) : Nat → Nat → Int
  | 0 => fun k => if k = 0 then s else 0
  | w + 1 => if w < i then tmp (plm s i a b c d w) a b else tmp (plm s i a b c d w) c d
theorem plm_out (s : Int) (i : Nat) (a b c d : Int) : ∀ (w k : Nat), w < k → plm s i a b c d w k = 0
  | 0, k, h => by show (if k = 0 then s else 0) = 0; rw [if_neg (by omega)]
  | w + 1, k + 1, h => by
    have h1 := plm_out s i a b c d w k (by omega)
    have h2 := plm_out s i a b c d w (k + 1) (by omega)
    rw [plm]
    split <;> (show _ * plm s i a b c d w k + _ * plm s i a b c d w (k + 1) = 0; rw [h1, h2]; omega)
theorem plm_mul (s : Int) (i : Nat) (a b c d : Int) : ∀ (w k : Nat), plm s i a b c d w k = s * plm 1 i a b c d w k
  | 0, k => by
    show (if k = 0 then s else 0) = s * (if k = 0 then 1 else 0)
    split <;> omega
  | w + 1, 0 => by
    rw [plm, plm]
    split <;> (show _ * plm s i a b c d w 0 = s * (_ * plm 1 i a b c d w 0); rw [plm_mul s i a b c d w 0, Int.mul_left_comm])
  | w + 1, k + 1 => by
    rw [plm, plm]
    split <;> (show _ * plm s i a b c d w k + _ * plm s i a b c d w (k + 1) = s * (_ * plm 1 i a b c d w k + _ * plm 1 i a b c d w (k + 1)); rw [plm_mul s i a b c d w k, plm_mul s i a b c d w (k + 1), Int.mul_add, Int.mul_left_comm s, Int.mul_left_comm s])
end HP

/- Polynomials under matrices: one matrix behind the other is the product. -/
namespace HP
def sumI (f : Nat → Int) : Nat → Int
  | 0 => 0
  | n + 1 => sumI f n + f n
theorem sumI_congr {f g : Nat → Int} : ∀ n, (∀ i, i < n → f i = g i) → sumI f n = sumI g n
  | 0, _ => rfl
  | n + 1, h => by rw [sumI, sumI, sumI_congr n fun i hi => h i (by omega), h n (by omega)]
theorem sumI_add (f g : Nat → Int) : ∀ n, sumI (fun i => f i + g i) n = sumI f n + sumI g n
  | 0 => rfl
  | n + 1 => by rw [sumI, sumI, sumI, sumI_add f g n]; omega
theorem sumI_mul (a : Int) (f : Nat → Int) : ∀ n, sumI (fun i => a * f i) n = a * sumI f n
  | 0 => (Int.mul_zero a).symm
  | n + 1 => by rw [sumI, sumI, sumI_mul a f n, Int.mul_add]
theorem sumI_shift (f : Nat → Int) : ∀ n, sumI f (n + 1) = f 0 + sumI (fun i => f (i + 1)) n
  | 0 => by rw [sumI, sumI, sumI]; omega
  | n + 1 => by rw [sumI, sumI_shift f n, sumI]; omega
theorem sumI_zero {f : Nat → Int} : ∀ n, (∀ i, i < n → f i = 0) → sumI f n = 0
  | 0, _ => rfl
  | n + 1, h => by rw [sumI, sumI_zero n fun i hi => h i (by omega), h n (by omega)]; rfl
/-- a sum of which one term stands -/
theorem sumI_one {f : Nat → Int} {j : Nat} : ∀ n, j < n → (∀ i, i < n → i ≠ j → f i = 0) → sumI f n = f j
  | 0, h, _ => absurd h (Nat.not_lt_zero _)
  | n + 1, h, H => by
    rw [sumI]
    by_cases hj : j = n
    · subst hj
      rw [sumI_zero j fun i hi => H i (by omega) (by omega)]
      omega
    · rw [sumI_one n (by omega) fun i hi => H i (by omega), H n (by omega) (fun e => hj e.symm)]
      omega
theorem tmp_comm (c : Nat → Int) (a b a' b' : Int) : tmp (tmp c a b) a' b' = tmp (tmp c a' b') a b := by
  funext m
  match m with
  | 0 => show b' * (b * c 0) = b * (b' * c 0); exact Int.mul_left_comm _ _ _
  | 1 =>
    show a' * (b * c 0) + b' * (a * c 0 + b * c 1) = a * (b' * c 0) + b * (a' * c 0 + b' * c 1)
    grind
  | m + 2 =>
    show a' * (a * c m + b * c (m + 1)) + b' * (a * c (m + 1) + b * c (m + 2)) = a * (a' * c m + b' * c (m + 1)) + b * (a' * c (m + 1) + b' * c (m + 2))
    grind
theorem plm_all {s : Int} {i i' : Nat} {a b c d : Int} : ∀ {w : Nat}, w ≤ i → w ≤ i' → plm s i a b c d w = plm s i' a b c d w
  | 0, _, _ => rfl
  | w + 1, h, h' => by rw [plm, plm, if_pos (show w < i by omega), if_pos (show w < i' by omega), plm_all (i := i) (i' := i') (w := w) (by omega) (by omega)]
theorem plm_up {k : Nat} {e f g h : Int} : ∀ {w : Nat}, k ≤ w → plm 1 (k + 1) e f g h (w + 1) = tmp (plm 1 k e f g h w) e f
  | w, hk => by
    by_cases hw : w = k
    · subst hw
      rw [plm, if_pos (by omega), plm_all (i := w + 1) (i' := w) (by omega) (by omega)]
    · match w, hk, hw with
      | 0, hk, hw => omega
      | w + 1, hk, hw =>
        rw [plm, if_neg (by omega), plm_up (w := w) (by omega), tmp_comm]
        congr 1
        rw [plm, if_neg (by omega)]
theorem plm_eq {k : Nat} {e f g h : Int} {w : Nat} (hk : k ≤ w) : plm 1 k e f g h (w + 1) = tmp (plm 1 k e f g h w) g h := by
  rw [plm, if_neg (by omega)]
theorem tmp_add (c : Nat → Int) (a b a' b' : Int) (m : Nat) : tmp c a b m + tmp c a' b' m = tmp c (a + a') (b + b') m := by
  cases m with
  | zero => show b * c 0 + b' * c 0 = (b + b') * c 0; rw [Int.add_mul]
  | succ m => show a * c m + b * c (m + 1) + (a' * c m + b' * c (m + 1)) = (a + a') * c m + (b + b') * c (m + 1); rw [Int.add_mul, Int.add_mul]; omega
theorem tmp_mul (c : Nat → Int) (s a b : Int) (m : Nat) : s * tmp c a b m = tmp c (s * a) (s * b) m := by
  cases m with
  | zero => show s * (b * c 0) = s * b * c 0; rw [Int.mul_assoc]
  | succ m => show s * (a * c m + b * c (m + 1)) = s * a * c m + s * b * c (m + 1); rw [Int.mul_add, Int.mul_assoc, Int.mul_assoc]
theorem tmp_sum (c : Nat → Int) (P : Nat → Nat → Int) (a b : Int) (n m : Nat) : sumI (fun k => c k * tmp (P k) a b m) n = tmp (fun q => sumI (fun k => c k * P k q) n) a b m := by
  cases m with
  | zero =>
    show sumI (fun k => c k * (b * P k 0)) n = b * sumI (fun k => c k * P k 0) n
    rw [← sumI_mul]
    exact sumI_congr n fun i _ => Int.mul_left_comm _ _ _
  | succ m =>
    show sumI (fun k => c k * (a * P k m + b * P k (m + 1))) n = a * sumI (fun k => c k * P k m) n + b * sumI (fun k => c k * P k (m + 1)) n
    rw [← sumI_mul, ← sumI_mul, ← sumI_add]
    exact sumI_congr n fun i _ => by rw [Int.mul_add, Int.mul_left_comm, Int.mul_left_comm (c i)]
theorem sub_factor {c : Nat → Int} {w : Nat} (hc : c (w + 1) = 0) (a b e f g h : Int) (m : Nat) :
    sumI (fun k => tmp c a b k * plm 1 k e f g h (w + 1) m) (w + 2) = tmp (fun q => sumI (fun k => c k * plm 1 k e f g h w q) (w + 1)) (a * e + b * g) (a * f + b * h) m := by
  rw [← tmp_sum, sumI_shift]
  have e1 : sumI (fun i => tmp c a b (i + 1) * plm 1 (i + 1) e f g h (w + 1) m) (w + 1) = sumI (fun i => c i * (a * plm 1 (i + 1) e f g h (w + 1) m)) (w + 1) + sumI (fun i => b * (c (i + 1) * plm 1 (i + 1) e f g h (w + 1) m)) (w + 1) := by
    rw [← sumI_add]
    refine sumI_congr _ fun i _ => ?_
    show (a * c i + b * c (i + 1)) * _ = _
    grind
  have e2 : sumI (fun i => b * (c (i + 1) * plm 1 (i + 1) e f g h (w + 1) m)) (w + 1) = sumI (fun i => b * (c i * plm 1 i e f g h (w + 1) m)) (w + 1) - b * (c 0 * plm 1 0 e f g h (w + 1) m) := by
    have := sumI_shift (fun i => b * (c i * plm 1 i e f g h (w + 1) m)) (w + 1)
    rw [sumI, hc, Int.zero_mul, Int.mul_zero, Int.add_zero] at this
    rw [this]
    omega
  have e3 : tmp c a b 0 * plm 1 0 e f g h (w + 1) m = b * (c 0 * plm 1 0 e f g h (w + 1) m) := by
    show b * c 0 * _ = _
    rw [Int.mul_assoc]
  rw [e1, e2, e3]
  have e4 : sumI (fun k => c k * tmp (plm 1 k e f g h w) (a * e + b * g) (a * f + b * h) m) (w + 1) = sumI (fun i => c i * (a * plm 1 (i + 1) e f g h (w + 1) m)) (w + 1) + sumI (fun i => b * (c i * plm 1 i e f g h (w + 1) m)) (w + 1) := by
    rw [← sumI_add]
    refine sumI_congr _ fun i hi => ?_
    rw [plm_up (show i ≤ w by omega), plm_eq (show i ≤ w by omega), ← tmp_add, ← tmp_mul, ← tmp_mul, Int.mul_add, Int.mul_left_comm (c i) b]
  rw [e4]
  omega
/-- one matrix behind the other -/
theorem plm_sub (s : Int) (i : Nat) (a b c d e f g h : Int) : ∀ (w m : Nat), sumI (fun k => plm s i a b c d w k * plm 1 k e f g h w m) (w + 1) = plm s i (a * e + b * g) (a * f + b * h) (c * e + d * g) (c * f + d * h) w m
  | 0, m => by
    rw [sumI, sumI]
    show 0 + (if (0 : Nat) = 0 then s else 0) * (if m = 0 then 1 else 0) = if m = 0 then s else 0
    rw [if_pos rfl]
    split <;> omega
  | w + 1, m => by
    have ih : (fun q => sumI (fun k => plm s i a b c d w k * plm 1 k e f g h w q) (w + 1)) = plm s i (a * e + b * g) (a * f + b * h) (c * e + d * g) (c * f + d * h) w := funext fun q => plm_sub s i a b c d e f g h w q
    have hc := plm_out s i a b c d w (w + 1) (by omega)
    rw [plm, plm]
    split
    · rw [sub_factor hc, ih]
    · rw [sub_factor hc, ih]
end HP

/- Pairs modulo n under matrices; what their places and signs are. -/
namespace HP
def rz (n : Nat) (x : Int) : Nat := (x % n).toNat
theorem rz_int {n : Nat} (hn : 0 < n) (x : Int) : ((rz n x : Nat) : Int) = x % n := by
  have := Int.emod_nonneg x (show (n : Int) ≠ 0 by omega)
  unfold rz
  omega
theorem rz_lt {n : Nat} (hn : 0 < n) (x : Int) : rz n x < n := by
  have h1 := rz_int hn x
  have h2 := Int.emod_lt_of_pos x (show (0 : Int) < n by omega)
  omega
theorem em_of {n u u' : Int} (h : n ∣ u - u') : u % n = u' % n := Int.emod_eq_emod_iff_emod_sub_eq_zero.2 (Int.emod_eq_zero_of_dvd h)
theorem rz_congr {n : Nat} {u u' : Int} (h : (n : Int) ∣ u - u') : rz n u = rz n u' := by unfold rz; rw [em_of h]
theorem rz_nat {n a : Nat} : rz n (a : Int) = a % n := by
  unfold rz
  rw [show (a : Int) % (n : Int) = ((a % n : Nat) : Int) from (Int.natCast_emod a n).symm, Int.toNat_natCast]
theorem rz_sub {n : Nat} (hn : 0 < n) (x : Int) : ∃ q : Int, ((rz n x : Nat) : Int) = x - n * q := ⟨x / n, by rw [rz_int hn]; have := Int.mul_ediv_add_emod x n; omega⟩
/-- the pair (u, v) modulo n -/
def pr (n : Nat) (u v : Int) : Nat := rz n u * n + rz n v
theorem pr_div {n : Nat} (hn : 0 < n) (u v : Int) : pr n u v / n = rz n u := by
  unfold pr
  rw [Nat.add_comm, Nat.add_mul_div_right _ _ hn, Nat.div_eq_of_lt (rz_lt hn v), Nat.zero_add]
theorem pr_mod {n : Nat} (hn : 0 < n) (u v : Int) : pr n u v % n = rz n v := by
  unfold pr
  rw [Nat.add_comm, Nat.add_mul_mod_self_right, Nat.mod_eq_of_lt (rz_lt hn v)]
theorem pr_lt {n : Nat} (hn : 0 < n) (u v : Int) : pr n u v < n * n := by
  have h1 := rz_lt hn u
  have h2 := rz_lt hn v
  have h3 : (rz n u + 1) * n ≤ n * n := Nat.mul_le_mul_right _ h1
  rw [Nat.add_mul, Nat.one_mul] at h3
  unfold pr
  omega
theorem pr_congr {n : Nat} {u v u' v' : Int} (h : (n : Int) ∣ u - u') (k : (n : Int) ∣ v - v') : pr n u v = pr n u' v' := by unfold pr; rw [rz_congr h, rz_congr k]
theorem pr_self {n x : Nat} (hx : x < n * n) : pr n ((x / n : Nat) : Int) ((x % n : Nat) : Int) = x := by
  unfold pr
  rw [rz_nat, rz_nat, Nat.mod_mod, Nat.mod_eq_of_lt (Nat.div_lt_of_lt_mul hx), Nat.mul_comm]
  exact Nat.div_add_mod x n
theorem mu_pr {n : Nat} (hn : 0 < n) (l : Nat) (u v : Int) : mu n l (pr n u v) = pr n (l * u) (l * v) := by
  obtain ⟨q1, e1⟩ := rz_sub hn u
  obtain ⟨q2, e2⟩ := rz_sub hn v
  have h1 : l * rz n u % n = rz n (l * u) := by
    rw [← rz_nat]
    refine rz_congr ⟨-(l * q1), ?_⟩
    push_cast
    rw [e1]
    grind
  have h2 : l * rz n v % n = rz n (l * v) := by
    rw [← rz_nat]
    refine rz_congr ⟨-(l * q2), ?_⟩
    push_cast
    rw [e2]
    grind
  show (l * (pr n u v / n) % n) * n + l * (pr n u v % n) % n = _
  rw [pr_div hn, pr_mod hn, h1, h2]
  rfl
theorem dvd_rz {n d : Nat} (hn : 0 < n) (hd : d ∣ n) (u : Int) : d ∣ rz n u ↔ (d : Int) ∣ u := by
  obtain ⟨q, e⟩ := rz_sub hn u
  have hd' : (d : Int) ∣ (n : Int) := Int.ofNat_dvd.2 hd
  have h2 : (d : Int) ∣ (n : Int) * q := Int.dvd_trans hd' (Int.dvd_mul_right _ _)
  rw [← Int.ofNat_dvd, e]
  constructor
  · intro h
    have := Int.dvd_add h h2
    rwa [Int.sub_add_cancel] at this
  · intro h
    exact Int.dvd_sub h h2
theorem cop_pr {n : Nat} (hn : 0 < n) (u v : Int) : copB n (pr n u v) = true ↔ ∀ d : Nat, d ∣ n → (d : Int) ∣ u → (d : Int) ∣ v → d = 1 := by
  rw [cop_dvd, pr_div hn, pr_mod hn]
  constructor
  · intro h d h1 h2 h3
    exact h d ((dvd_rz hn h1 u).2 h2) ((dvd_rz hn h1 v).2 h3) h1
  · intro h d h1 h2 h3
    exact h d h3 ((dvd_rz hn h3 u).1 h1) ((dvd_rz hn h3 v).1 h2)
/-- the pair x times a matrix -/
def acP (n x : Nat) (a b c d : Int) : Nat := pr n ((x / n : Nat) * a + (x % n : Nat) * c) ((x / n : Nat) * b + (x % n : Nat) * d)
theorem acP_lt {n : Nat} (hn : 0 < n) (x : Nat) (a b c d : Int) : acP n x a b c d < n * n := pr_lt hn _ _
theorem acP_pr {n : Nat} (hn : 0 < n) (u v a b c d : Int) : acP n (pr n u v) a b c d = pr n (u * a + v * c) (u * b + v * d) := by
  unfold acP
  rw [pr_div hn, pr_mod hn]
  obtain ⟨q1, e1⟩ := rz_sub hn u
  obtain ⟨q2, e2⟩ := rz_sub hn v
  rw [e1, e2]
  exact pr_congr ⟨-(q1 * a + q2 * c), by grind⟩ ⟨-(q1 * b + q2 * d), by grind⟩
theorem acP_mu {n : Nat} (hn : 0 < n) (l x : Nat) (a b c d : Int) (hx : x < n * n) : acP n (mu n l x) a b c d = mu n l (acP n x a b c d) := by
  have h := mu_pr hn l ((x / n : Nat) : Int) ((x % n : Nat) : Int)
  rw [pr_self hx] at h
  rw [h, acP_pr hn]
  unfold acP
  rw [mu_pr hn]
  congr 1 <;> grind
theorem acP_acP {n : Nat} (hn : 0 < n) (x : Nat) (a b c d e f g h : Int) : acP n (acP n x a b c d) e f g h = acP n x (a * e + b * g) (a * f + b * h) (c * e + d * g) (c * f + d * h) := by
  show acP n (pr n ((x / n : Nat) * a + (x % n : Nat) * c) ((x / n : Nat) * b + (x % n : Nat) * d)) e f g h = _
  rw [acP_pr hn]
  unfold acP
  congr 1 <;> grind
theorem acP_bad {n x : Nat} (hn : 0 < n) (hx : x < n * n) (h : copB n x = false) (a b c d : Int) : copB n (acP n x a b c d) = false := by
  rw [Bool.eq_false_iff]
  intro hc
  have hx2 : copB n (pr n ((x / n : Nat) : Int) ((x % n : Nat) : Int)) = true := by
    rw [cop_pr hn]
    intro q h1 h2 h3
    exact (cop_pr hn _ _).1 hc q h1 (Int.dvd_add (Int.dvd_trans h2 (Int.dvd_mul_right _ _)) (Int.dvd_trans h3 (Int.dvd_mul_right _ _))) (Int.dvd_add (Int.dvd_trans h2 (Int.dvd_mul_right _ _)) (Int.dvd_trans h3 (Int.dvd_mul_right _ _)))
  rw [pr_self hx, h] at hx2
  cases hx2
theorem jac_cong {D : Int} {n a b : Nat} (h0 : D ≠ 0) (h4 : D % 4 = 0 ∨ D % 4 = 1) (hd : D.natAbs ∣ n) (ha : 0 < a) (hb : 0 < b) (h : a % n = b % n) : jac D a = jac D b := by
  have key : ∀ {a b : Nat}, 0 < a → a ≤ b → a % n = b % n → jac D a = jac D b := fun {a b} ha hab h => by
    obtain ⟨q, hq⟩ := dvd_sub_of h
    obtain ⟨k, rfl⟩ := hd
    have e : b = a + (k * q) * D.natAbs := by rw [Nat.mul_comm, ← Nat.mul_assoc]; omega
    rw [e]
    exact (jac_period h0 h4 a (k * q) ha).symm
  rcases Nat.le_total a b with h1 | h1
  · exact key ha h1 h
  · exact (key hb h1 h.symm).symm
theorem kro_nat {D : Int} {l : Nat} (h : 0 < l) : kro D (l : Int) = jac D l := by rw [kro_pos (by omega), Int.toNat_natCast]
theorem Pl.mul {n y j s l : Nat} (hn : 0 < n) (h : Pl n y j s) (hl : UU n l) : ∃ r, Pl n (mu n l y) j r ∧ r % n = l * s % n := by
  obtain ⟨u, x, hx, e⟩ := h
  obtain ⟨r, r1, r2⟩ := uu_mul hn hl.2.2 u.2.2
  exact ⟨r, ⟨r1, x, hx, by rw [mu_cong r2, ← mu_mu hn, e]⟩, r2⟩
/-- a pair times a unit -/
theorem pl_scale {n y l : Nat} {D : Int} (hn : 0 < n) (h0 : D ≠ 0) (h4 : D % 4 = 0 ∨ D % 4 = 1) (hd : D.natAbs ∣ n) (hl : UU n l) (hy : y < n * n) : pIx n (mu n l y) = pIx n y ∧ pSg n D (mu n l y) = kro D l * pSg n D y := by
  cases hc : copB n y with
  | true =>
    obtain ⟨j, s, k⟩ := Pl.ex hn hy hc
    obtain ⟨r, r1, r2⟩ := k.mul hn hl
    rw [pIx_of hn r1, pIx_of hn k, pSg_of hn r1, pSg_of hn k]
    refine ⟨rfl, ?_⟩
    have a1 := r1.1.1
    have a2 := hl.1
    have a3 := k.1.1
    rw [kro_nat a1, kro_nat a2, kro_nat a3, ← jac_mul D l s a2 a3]
    exact jac_cong h0 h4 hd a1 (Nat.mul_pos a2 a3) r2
  | false =>
    have hb : copB n (mu n l y) = false := by
      rw [Bool.eq_false_iff]
      intro h
      obtain ⟨t, t1, t2⟩ := uu_inv hn hl.2.2
      have := cop_mu hn t1.2.2 h
      rw [mu_back hn hy t2 rfl, hc] at this
      cases this
    rw [pIx_no hc, pIx_no hb, pSg_no hc, pSg_no hb, Int.mul_zero]
    exact ⟨rfl, rfl⟩
theorem pSg_unit {n y : Nat} {D : Int} (hn : 0 < n) (hd : D.natAbs ∣ n) (hy : y < n * n) (hc : copB n y = true) : pSg n D y = 1 ∨ pSg n D y = -1 := by
  obtain ⟨j, s, k⟩ := Pl.ex hn hy hc
  rw [pSg_of hn k, kro_nat k.1.1]
  have h1 := jac_tri D s k.1.1
  have h2 : jac D s ≠ 0 := jac_ne_zero k.1.1 fun p hp hps hpd => by
    have h3 : p ∣ D.natAbs := Int.ofNat_dvd_left.1 hpd
    have h4 : p ∣ Nat.gcd s n := Nat.dvd_gcd hps (Nat.dvd_trans h3 hd)
    rw [k.1.2.2] at h4
    have := hp.two_le
    have := Nat.dvd_one.1 h4
    omega
  rcases h1 with h | h | h
  · exact absurd h h2
  · exact .inl h
  · exact .inr h
/-- a point of the list -/
theorem pl_self {n j x : Nat} (hn : 0 < n) (h : (pts n)[j]? = some x) : Pl n x j 1 := ⟨uu_one hn, x, h, mu_one (pts_num h).1⟩
/-- the place of a pair, as a point times a unit -/
theorem pl_at {n y : Nat} (hn : 0 < n) (hy : y < n * n) (hc : copB n y = true) : ∃ l x, UU n l ∧ (pts n)[pIx n y]? = some x ∧ mu n l x = y ∧ ∀ D, pSg n D y = kro D l := by
  obtain ⟨j, s, k⟩ := Pl.ex hn hy hc
  obtain ⟨u, x, hx, e⟩ := k
  exact ⟨s, x, u, by rw [pIx_of hn ⟨u, x, hx, e⟩]; exact hx, e, fun D => pSg_of hn ⟨u, x, hx, e⟩⟩
end HP

/- THE ACTION IS ONE: symbols times matrices, as vectors. -/
namespace HP
theorem sumI_append (f : Nat → Int) (a : Nat) : ∀ b, sumI f (a + b) = sumI f a + sumI (fun i => f (a + i)) b
  | 0 => by rw [Nat.add_zero, sumI, Int.add_zero]
  | b + 1 => by rw [← Nat.add_assoc, sumI, sumI_append f a b, sumI, Int.add_assoc]
theorem sumI_block {f : Nat → Int} {L q : Nat} (hq : q < L) (h : ∀ r, r % L ≠ q → f r = 0) : ∀ K, sumI f (K * L) = sumI (fun k => f (k * L + q)) K
  | 0 => by rw [Nat.zero_mul]; rfl
  | K + 1 => by
    rw [Nat.add_mul, Nat.one_mul, sumI_append, sumI_block hq h K, sumI]
    congr 1
    refine sumI_one (f := fun i => f (K * L + i)) L hq fun i hi hne => h _ ?_
    rw [Nat.add_comm, Nat.add_mul_mod_self_right, Nat.mod_eq_of_lt hi]
    exact hne
/-- the point with a number -/
def pt (n j : Nat) : Nat := (pts n).getD j 0
theorem pt_at {n j : Nat} (h : j < (pts n).length) : (pts n)[j]? = some (pt n j) := by
  unfold pt
  rw [List.getD_eq_getElem?_getD, List.getElem?_eq_getElem h]
  rfl
theorem pt_lt {n j : Nat} (h : j < (pts n).length) : pt n j < n * n := (pts_num (pt_at h)).1
theorem pt_cop {n j : Nat} (h : j < (pts n).length) : copB n (pt n j) = true := isN_cop (pts_num (pt_at h)).2.1
theorem pt_of {n j x : Nat} (h : (pts n)[j]? = some x) : pt n j = x := by unfold pt; rw [List.getD_eq_getElem?_getD, h]; rfl
/-- the coefficient of symbol number m in symbol number r times a matrix -/
def vS (n : Nat) (D : Int) (w r : Nat) (a b c d : Int) (m : Nat) : Int :=
  if m % (pts n).length = pIx n (acP n (pt n (r % (pts n).length)) a b c d) then pSg n D (acP n (pt n (r % (pts n).length)) a b c d) * plm 1 (r / (pts n).length) a b c d w (m / (pts n).length) else 0
structure Sp40 (n : Nat) (D : Int) : Prop where
  n0 : 0 < n
  dz : D ≠ 0
  d4 : D % 4 = 0 ∨ D % 4 = 1
  dv : D.natAbs ∣ n
theorem acts {n : Nat} {D : Int} (S : Sp40 n D) {w r m : Nat} (hr : r < (w + 1) * (pts n).length) (a b c d e f g h : Int) :
    sumI (fun q => vS n D w r a b c d q * vS n D w q e f g h m) ((w + 1) * (pts n).length) = vS n D w r (a * e + b * g) (a * f + b * h) (c * e + d * g) (c * f + d * h) m := by
  obtain ⟨hn, h0, h4, hd⟩ := S
  have hL : 0 < (pts n).length := by
    rcases Nat.eq_zero_or_pos (pts n).length with h | h
    · rw [h] at hr; omega
    · exact h
  have hj : r % (pts n).length < (pts n).length := Nat.mod_lt _ hL
  have hx := pt_lt hj
  have hA := acP_acP hn (pt n (r % (pts n).length)) a b c d e f g h
  have hyl := acP_lt hn (pt n (r % (pts n).length)) a b c d
  unfold vS
  rw [← hA]
  cases hc : copB n (acP n (pt n (r % (pts n).length)) a b c d) with
  | false =>
    rw [pSg_no hc, pSg_no (acP_bad hn hyl hc e f g h)]
    rw [sumI_zero _ fun i _ => by rw [Int.zero_mul, show (if i % (pts n).length = pIx n (acP n (pt n (r % (pts n).length)) a b c d) then (0 : Int) else 0) = 0 from by split <;> rfl, Int.zero_mul]]
    rw [Int.zero_mul]
    split <;> rfl
  | true =>
    obtain ⟨l, x, hl, hxq, he, hs⟩ := pl_at hn hyl hc
    have hql := (List.getElem?_eq_some_iff.1 hxq).1
    have hpt := pt_of hxq
    have hxl := (pts_num hxq).1
    have h2 := acP_mu hn l x e f g h hxl
    rw [he] at h2
    have h3 := pl_scale hn h0 h4 hd hl (acP_lt hn x e f g h)
    rw [h2, h3.1, h3.2, hs D]
    generalize pIx n (acP n (pt n (r % (pts n).length)) a b c d) = q at *
    generalize hLL : (pts n).length = L at *
    rw [sumI_block hql (fun i hi => by rw [if_neg hi, Int.zero_mul])]
    have ed : ∀ k, (k * L + q) / L = k := fun k => by rw [Nat.add_comm, Nat.add_mul_div_right _ _ hL, Nat.div_eq_of_lt hql, Nat.zero_add]
    have emm : ∀ k, (k * L + q) % L = q := fun k => by rw [Nat.add_comm, Nat.add_mul_mod_self_right, Nat.mod_eq_of_lt hql]
    simp only [ed, emm, if_true, hpt]
    by_cases hm : m % L = pIx n (acP n x e f g h)
    · rw [if_pos hm, ← plm_sub 1 (r / L) a b c d e f g h w (m / L)]
      simp only [if_pos hm]
      rw [← sumI_mul]
      exact sumI_congr _ fun k _ => by grind
    · rw [if_neg hm]
      simp only [if_neg hm, Int.mul_zero]
      exact sumI_zero _ fun _ _ => rfl
/-- diagonal matrices of signs -/
theorem tmp_diag (c : Nat → Int) (a : Int) (k : Nat) : tmp c a 0 k = if k = 0 then 0 else a * c (k - 1) := by
  cases k with
  | zero => show 0 * c 0 = _; rw [Int.zero_mul, if_pos rfl]
  | succ k => show a * c k + 0 * c (k + 1) = _; rw [Int.zero_mul, Int.add_zero, if_neg (by omega)]; rfl
theorem tmp_diag2 (c : Nat → Int) (d : Int) (k : Nat) : tmp c 0 d k = d * c k := by
  cases k with
  | zero => rfl
  | succ k => show 0 * c k + d * c (k + 1) = _; rw [Int.zero_mul, Int.zero_add]
theorem plm_diag (a d : Int) (i : Nat) : ∀ (w k : Nat), plm 1 i a 0 0 d w k = if k = min w i then a ^ min w i * d ^ (w - min w i) else 0
  | 0, k => by
    show (if k = 0 then 1 else 0) = _
    rw [Nat.zero_min, Nat.sub_self, Int.pow_zero, Int.pow_zero]
    rfl
  | w + 1, k => by
    rw [plm]
    by_cases hw : w < i
    · rw [if_pos hw, tmp_diag]
      rw [show min (w + 1) i = w + 1 by omega, Nat.sub_self]
      by_cases hk : k = 0
      · rw [if_pos hk, if_neg (by omega)]
      · rw [if_neg hk, plm_diag a d i w (k - 1), show min w i = w by omega, Nat.sub_self]
        by_cases hk2 : k = w + 1
        · rw [if_pos (by omega), if_pos hk2, Int.pow_succ, Int.pow_zero, Int.mul_one, Int.mul_one, Int.mul_comm]
        · rw [if_neg (by omega), if_neg hk2, Int.mul_zero]
    · rw [if_neg hw, tmp_diag2, plm_diag a d i w k, show min (w + 1) i = i by omega, show min w i = i by omega, show w + 1 - i = (w - i) + 1 by omega]
      by_cases hk : k = i
      · rw [if_pos hk, if_pos hk, Int.pow_succ, Int.mul_left_comm, Int.mul_comm d]
      · rw [if_neg hk, if_neg hk, Int.mul_zero]
theorem num_split {L r : Nat} : r = r / L * L + r % L := by rw [Nat.mul_comm]; exact (Nat.div_add_mod r L).symm
theorem acP_one {n x : Nat} (hx : x < n * n) : acP n x 1 0 0 1 = x := by
  unfold acP
  simp only [Int.mul_one, Int.mul_zero, Int.add_zero, Int.zero_add]
  exact pr_self hx
/-- a symbol times 1 -/
theorem vS_one {n : Nat} {D : Int} (hn : 0 < n) {w r m : Nat} (hr : r < (w + 1) * (pts n).length) : vS n D w r 1 0 0 1 m = if m = r then 1 else 0 := by
  have hL : 0 < (pts n).length := by
    rcases Nat.eq_zero_or_pos (pts n).length with h | h
    · rw [h] at hr; omega
    · exact h
  have hj : r % (pts n).length < (pts n).length := Nat.mod_lt _ hL
  have hi : r / (pts n).length ≤ w := by have := (Nat.div_lt_iff_lt_mul hL).2 hr; omega
  have hp := pl_self hn (pt_at hj)
  unfold vS
  rw [acP_one (pt_lt hj), pIx_of hn hp, pSg_of hn hp, kro_nat (by omega), jac_one, plm_diag, show min w (r / (pts n).length) = r / (pts n).length by omega]
  have e1 := num_split (L := (pts n).length) (r := r)
  have e2 := num_split (L := (pts n).length) (r := m)
  simp only [Int.one_pow, Int.mul_one, Int.one_mul]
  by_cases h1 : m % (pts n).length = r % (pts n).length
  · rw [if_pos h1]
    by_cases h2 : m / (pts n).length = r / (pts n).length
    · rw [if_pos h2, if_pos (by rw [e1, e2, h1, h2])]
    · rw [if_neg h2, if_neg (fun h => h2 (by rw [h]))]
  · rw [if_neg h1, if_neg (fun h => h1 (by rw [h]))]
end HP

/- Manin symbols: -1, the star involution, mirrors, turns. -/
namespace HP
def jacK (d : Int) (a : Nat) : Int := prodL (fun p e => kr d p ^ e) (facC a)
theorem jac_K {d : Int} {a : Nat} (h1 : 1 ≤ a) (h2 : a ≤ 120) : jac d a = jacK d a := by
  unfold jac jacK
  rw [ext_facs _ _ h1, ← facs_C h1 h2]
theorem neg_chk : allB 241 (fun k => let d : Int := (k : Int) - 120
    !(decide (d % 4 = 0) || decide (d % 4 = 1)) || Nat.ble d.natAbs 1 || decide (jacK d (d.natAbs - 1) = if d < 0 then -1 else 1)) = true := by decide +kernel
theorem jac_neg {d : Int} {n t : Nat} (h0 : d ≠ 0) (h4 : d % 4 = 0 ∨ d % 4 = 1) (hd : d.natAbs ∣ n) (hn : 0 < n) (h1 : -120 ≤ d) (h2 : d ≤ 120) (ht : 0 < t) (e : t % n = (n - 1) % n) : jac d t = if d < 0 then -1 else 1 := by
  have hle := Nat.le_of_dvd hn hd
  by_cases hb : d.natAbs ≤ 1
  · obtain rfl : d = 1 := by omega
    have := jac_period (d := 1) (by omega) (by omega) 1 (t - 1) (by omega)
    rw [show 1 + (t - 1) * (1 : Int).natAbs = t by simp; omega, jac_one] at this
    rw [this, if_neg (by omega)]
  · have hc := allB_at neg_chk (show (d + 120).toNat < 241 by omega)
    have ed : (((d + 120).toNat : Nat) : Int) - 120 = d := by omega
    have hk : Nat.ble d.natAbs 1 = false := by rw [Bool.eq_false_iff]; intro h; exact hb (Nat.le_of_ble_eq_true h)
    have h5 : (decide (d % 4 = 0) || decide (d % 4 = 1)) = true := by
      rcases h4 with h | h
      · rw [decide_eq_true h]; rfl
      · rw [decide_eq_true h, Bool.or_true]
    simp only [ed, hk, h5, Bool.not_true, Bool.false_or, decide_eq_true_eq] at hc
    rw [← hc, ← jac_K (by omega) (by omega)]
    refine jac_cong h0 h4 (Nat.dvd_refl _) ht (by omega) ?_
    obtain ⟨k, rfl⟩ := hd
    have hk0 : 0 < k := by
      rcases Nat.eq_zero_or_pos k with h | h
      · rw [h, Nat.mul_zero] at hn; omega
      · exact h
    have e2 : t % d.natAbs = (d.natAbs * k - 1) % d.natAbs := by
      rw [← Nat.mod_mod_of_dvd t (Nat.dvd_mul_right d.natAbs k), e, Nat.mod_mod_of_dvd _ (Nat.dvd_mul_right d.natAbs k)]
    obtain ⟨q, rfl⟩ : ∃ q, k = q + 1 := ⟨k - 1, by omega⟩
    rw [e2, show d.natAbs * (q + 1) - 1 = (d.natAbs - 1) + d.natAbs * q by rw [Nat.mul_add, Nat.mul_one]; omega, Nat.add_mul_mod_self_left]
theorem cop_pred (n : Nat) (hn : 0 < n) : Nat.gcd (n - 1) n = 1 := by
  have h1 := Nat.gcd_dvd_left (n - 1) n
  have h2 := Nat.gcd_dvd_right (n - 1) n
  have h3 : Nat.gcd (n - 1) n ∣ n - (n - 1) := Nat.dvd_sub h2 h1
  rw [show n - (n - 1) = 1 by omega] at h3
  exact Nat.dvd_one.1 h3
theorem acP_neg {n x : Nat} (hn : 0 < n) (hx : x < n * n) : acP n x (-1) 0 0 (-1) = mu n (n - 1) x := by
  have h := mu_pr hn (n - 1) ((x / n : Nat) : Int) ((x % n : Nat) : Int)
  rw [pr_self hx] at h
  rw [h]
  unfold acP
  have e : ((n - 1 : Nat) : Int) = (n : Int) - 1 := by omega
  rw [e]
  exact pr_congr ⟨-((x / n : Nat) : Int), by grind⟩ ⟨-((x % n : Nat) : Int), by grind⟩
theorem pow_neg_one (w : Nat) : (-1 : Int) ^ w = if w % 2 = 0 then 1 else -1 := by
  induction w with
  | zero => rfl
  | succ w ih =>
    rw [Int.pow_succ, ih]
    by_cases h : w % 2 = 0
    · rw [if_pos h, if_neg (by omega)]; rfl
    · rw [if_neg h, if_pos (by omega)]; rfl
/-- a symbol times -1 -/
theorem vS_neg {n : Nat} {D : Int} (S : Sp40 n D) (h1 : -120 ≤ D) (h2 : D ≤ 120) {w r m : Nat} (hp : D < 0 ↔ w % 2 = 1) (hr : r < (w + 1) * (pts n).length) : vS n D w r (-1) 0 0 (-1) m = if m = r then 1 else 0 := by
  obtain ⟨hn, h0, h4, hd⟩ := S
  have hL : 0 < (pts n).length := by
    rcases Nat.eq_zero_or_pos (pts n).length with h | h
    · rw [h] at hr; omega
    · exact h
  have hj : r % (pts n).length < (pts n).length := Nat.mod_lt _ hL
  have hi : r / (pts n).length ≤ w := by have := (Nat.div_lt_iff_lt_mul hL).2 hr; omega
  have hpl := pl_self hn (pt_at hj)
  have hx := pt_lt hj
  obtain ⟨t, t1, t2⟩ := uu_of hn (cop_pred n hn)
  have hsc := pl_scale (D := D) hn h0 h4 hd t1 hx
  unfold vS
  rw [acP_neg hn hx, mu_cong t2.symm, hsc.1, hsc.2, pIx_of hn hpl, pSg_of hn hpl, kro_nat t1.1, jac_neg h0 h4 hd hn h1 h2 t1.1 t2, kro_nat (show 0 < 1 by omega), jac_one, plm_diag, show min w (r / (pts n).length) = r / (pts n).length by omega, ← Int.pow_add, show r / (pts n).length + (w - r / (pts n).length) = w by omega, pow_neg_one]
  have e1 := num_split (L := (pts n).length) (r := r)
  have e2 := num_split (L := (pts n).length) (r := m)
  have e3 : (if D < 0 then (-1 : Int) else 1) * 1 * (if w % 2 = 0 then 1 else -1) = 1 := by
    by_cases hD : D < 0
    · have := hp.1 hD
      rw [if_pos hD, if_neg (by omega)]; rfl
    · have : w % 2 = 0 := by have := mt hp.2 hD; omega
      rw [if_neg hD, if_pos this]; rfl
  by_cases g1 : m % (pts n).length = r % (pts n).length
  · rw [if_pos g1]
    by_cases g2 : m / (pts n).length = r / (pts n).length
    · rw [if_pos g2, if_pos (show m = r by rw [e1, e2, g1, g2]), e3]
    · rw [if_neg g2, if_neg (fun h : m = r => g2 (by rw [h])), Int.mul_zero]
  · rw [if_neg g1, if_neg (fun h : m = r => g1 (by rw [h]))]
/-- the star of a symbol: its number and its sign -/
def stI (n r : Nat) : Nat := r / (pts n).length * (pts n).length + pIx n (acP n (pt n (r % (pts n).length)) (-1) 0 0 1)
def stS (n : Nat) (D : Int) (r : Nat) : Int := pSg n D (acP n (pt n (r % (pts n).length)) (-1) 0 0 1) * (-1) ^ (r / (pts n).length)
theorem acP_star_cop {n x : Nat} (hn : 0 < n) (hx : x < n * n) (hc : copB n x = true) : copB n (acP n x (-1) 0 0 1) = true := by
  cases h : copB n (acP n x (-1) 0 0 1) with
  | true => rfl
  | false =>
    have := acP_bad hn (acP_lt hn _ _ _ _ _) h (-1) 0 0 1
    rw [acP_acP hn, show (-1 : Int) * -1 + 0 * 0 = 1 from rfl, show (-1 : Int) * 0 + 0 * 1 = 0 from rfl, show (0 : Int) * -1 + 1 * 0 = 0 from rfl, show (0 : Int) * 0 + 1 * 1 = 1 from rfl, acP_one hx, hc] at this
    cases this
theorem vS_star {n : Nat} {D : Int} (hn : 0 < n) {w r m : Nat} (hr : r < (w + 1) * (pts n).length) : vS n D w r (-1) 0 0 1 m = if m = stI n r then stS n D r else 0 := by
  have hL : 0 < (pts n).length := by
    rcases Nat.eq_zero_or_pos (pts n).length with h | h
    · rw [h] at hr; omega
    · exact h
  have hj : r % (pts n).length < (pts n).length := Nat.mod_lt _ hL
  have hi : r / (pts n).length ≤ w := by have := (Nat.div_lt_iff_lt_mul hL).2 hr; omega
  have hq := pIx_lt hn (acP_lt hn _ _ _ _ _) (acP_star_cop hn (pt_lt hj) (pt_cop hj))
  unfold vS stI stS
  rw [plm_diag, show min w (r / (pts n).length) = r / (pts n).length by omega]
  generalize pIx n (acP n (pt n (r % (pts n).length)) (-1) 0 0 1) = q at *
  have e2 := num_split (L := (pts n).length) (r := m)
  have ed : (r / (pts n).length * (pts n).length + q) / (pts n).length = r / (pts n).length := by rw [Nat.add_comm, Nat.add_mul_div_right _ _ hL, Nat.div_eq_of_lt hq, Nat.zero_add]
  have em : (r / (pts n).length * (pts n).length + q) % (pts n).length = q := by rw [Nat.add_comm, Nat.add_mul_mod_self_right, Nat.mod_eq_of_lt hq]
  by_cases g1 : m % (pts n).length = q
  · rw [if_pos g1]
    by_cases g2 : m / (pts n).length = r / (pts n).length
    · rw [if_pos g2, if_pos (show m = r / (pts n).length * (pts n).length + q by rw [e2, g1, g2]), Int.one_pow, Int.mul_one]
    · rw [if_neg g2, if_neg (fun h => g2 (by rw [h, ed])), Int.mul_zero]
  · rw [if_neg g1, if_neg (fun h => g1 (by rw [h, em]))]
theorem stI_lt {n : Nat} (hn : 0 < n) {w r : Nat} (hr : r < (w + 1) * (pts n).length) : stI n r < (w + 1) * (pts n).length := by
  have hL : 0 < (pts n).length := by
    rcases Nat.eq_zero_or_pos (pts n).length with h | h
    · rw [h] at hr; omega
    · exact h
  have hj : r % (pts n).length < (pts n).length := Nat.mod_lt _ hL
  have hq := pIx_lt hn (acP_lt hn _ _ _ _ _) (acP_star_cop hn (pt_lt hj) (pt_cop hj))
  have hi : r / (pts n).length + 1 ≤ w + 1 := (Nat.div_lt_iff_lt_mul hL).2 hr
  have := Nat.mul_le_mul_right (pts n).length hi
  rw [Nat.add_mul, Nat.one_mul] at this
  unfold stI
  omega
/-- a vector times the star: one term -/
theorem star_one {n : Nat} {D : Int} (hn : 0 < n) {w r : Nat} (hr : r < (w + 1) * (pts n).length) (F : Nat → Int) :
    sumI (fun q => vS n D w r (-1) 0 0 1 q * F q) ((w + 1) * (pts n).length) = stS n D r * F (stI n r) := by
  rw [sumI_one _ (stI_lt hn hr) fun i _ hne => by rw [vS_star hn hr, if_neg hne, Int.zero_mul], vS_star hn hr, if_pos rfl]
theorem star_star {n : Nat} {D : Int} (S : Sp40 n D) {w r : Nat} (hr : r < (w + 1) * (pts n).length) : stI n (stI n r) = r ∧ stS n D r * stS n D (stI n r) = 1 := by
  have h := acts S (m := r) hr (-1) 0 0 1 (-1) 0 0 1
  rw [star_one S.n0 hr (fun q => vS n D w q (-1) 0 0 1 r), show (-1 : Int) * -1 + 0 * 0 = 1 from rfl, show (-1 : Int) * 0 + 0 * 1 = 0 from rfl, show (0 : Int) * -1 + 1 * 0 = 0 from rfl, show (0 : Int) * 0 + 1 * 1 = 1 from rfl, vS_one S.n0 hr, if_pos rfl, vS_star S.n0 (stI_lt S.n0 hr)] at h
  by_cases e : r = stI n (stI n r)
  · rw [if_pos e] at h
    exact ⟨e.symm, h⟩
  · rw [if_neg e, Int.mul_zero] at h
    cases h
/-- the star of x times g is the star of x times the mirrored g -/
theorem mirror {n : Nat} {D : Int} (S : Sp40 n D) {w r m : Nat} (hr : r < (w + 1) * (pts n).length) (hm : m < (w + 1) * (pts n).length) (a b c d : Int) :
    stS n D (stI n m) * vS n D w r a b c d (stI n m) = stS n D r * vS n D w (stI n r) a (-b) (-c) d m := by
  have h1 := acts S (m := m) hr a b c d (-1) 0 0 1
  have h2 := acts S (m := m) hr (-1) 0 0 1 a (-b) (-c) d
  rw [star_one S.n0 hr (fun q => vS n D w q a (-b) (-c) d m)] at h2
  rw [sumI_one _ (stI_lt S.n0 hm) fun i hi hne => ?_, vS_star S.n0 (stI_lt S.n0 hm), (star_star S hm).1, if_pos rfl] at h1
  · rw [h2, Int.mul_comm, h1]
    congr 1 <;> omega
  · rw [vS_star S.n0 hi, if_neg (fun e => hne ?_), Int.mul_zero]
    rw [e, (star_star S hi).1]
end HP

