import Derived.Test.YtjmldlbiihaefaaDoorNumO
import Derived.Test.YtjmldlbiihaefaaDoorNumH
/-! Plain number theory: the order of a residue, and how it is found. -/
namespace HP

/-- d is the order of a modulo m -/
def IsOrd (a m : Int) (d : Nat) : Prop := 0 < d ∧ ∀ n : Nat, Cong m (a ^ n) 1 ↔ d ∣ n

theorem isOrd_of_least {a m : Int} {d : Nat} (h0 : 0 < d) (h1 : Cong m (a ^ d) 1) (h2 : ∀ e, 0 < e → e < d → ¬ Cong m (a ^ e) 1) : IsOrd a m d := by
  refine ⟨h0, fun n => ⟨fun h => ?_, fun ⟨k, hk⟩ => ?_⟩⟩
  · have e : n = d * (n / d) + n % d := (Nat.div_add_mod n d).symm
    have hr : n % d < d := Nat.mod_lt _ h0
    have c1 : Cong m (a ^ (d * (n / d))) 1 := by
      have := h1.pow (n / d)
      rw [← Int.pow_mul, Int.one_pow] at this
      exact this
    have c2 : Cong m (a ^ (n % d)) 1 := by
      have c3 := c1.mul (Cong.refl m (a ^ (n % d)))
      rw [← Int.pow_add, ← e, Int.one_mul] at c3
      exact c3.symm.trans h
    apply Nat.dvd_of_mod_eq_zero
    apply Nat.le_zero.1
    apply Nat.le_of_not_lt
    intro h3
    exact h2 _ h3 hr c2
  · subst hk
    have := h1.pow k
    rw [← Int.pow_mul, Int.one_pow] at this
    exact this
theorem ord_exists {a m : Int} : ∀ (N : Nat), 0 < N → Cong m (a ^ N) 1 → ∃ d, IsOrd a m d := by
  intro N
  induction N using Nat.strongRecOn with
  | ind N ih =>
    intro hN h
    by_cases h2 : ∃ e, 0 < e ∧ e < N ∧ Cong m (a ^ e) 1
    · obtain ⟨e, h3, h4, h5⟩ := h2
      exact ih e h4 h3 h5
    · exact ⟨N, isOrd_of_least hN h fun e h3 h4 h5 => h2 ⟨e, h3, h4, h5⟩⟩
theorem IsOrd.unique {a m : Int} {d e : Nat} (h : IsOrd a m d) (g : IsOrd a m e) : d = e :=
  Nat.dvd_antisymm ((h.2 e).1 ((g.2 e).2 (Nat.dvd_refl e))) ((g.2 d).1 ((h.2 d).2 (Nat.dvd_refl d)))
/-- the test of the program -/
theorem IsOrd.test {a m : Int} {d : Nat} (h : IsOrd a m d) (n : Nat) : a ^ n % m = 1 % m ↔ d ∣ n :=
  ⟨fun h1 => (h.2 n).1 (Cong.of_emod h1), fun h1 => ((h.2 n).2 h1).emod_eq⟩

theorem natL_append : ∀ l m, natL (l ++ m) = natL l * natL m
  | [], m => by simp [natL]
  | (p, e) :: l, m => by
    show p ^ e * natL (l ++ m) = p ^ e * natL l * natL m
    rw [natL_append l m, Nat.mul_assoc]
theorem facs_not {n : Nat} (hn : 0 < n) : ∀ x ∈ facs n, ¬ x.1 ^ (x.2 + 1) ∣ n := by
  induction n, hn using facs_ind with
  | h1 => rw [facs_small (by omega)]; intro x hx; cases hx
  | h2 n hb h0 hs ih =>
    have hsm := strip_mul (lpf n) n
    have hl := lpf_spec hb
    have hnd := strip_not (p := lpf n) (n := n) hl.2.1 h0
    have hp := lpf_prm hb
    rw [facs_big hb]
    intro x hx hd
    rcases List.mem_cons.1 hx with rfl | hx
    · simp only at hd
      have h1 : lpf n ^ mlt (lpf n) n * lpf n ∣ lpf n ^ mlt (lpf n) n * strip (lpf n) n := by
        rw [hsm, ← Nat.pow_succ]; exact hd
      exact hnd (Nat.dvd_of_mul_dvd_mul_left (Nat.pow_pos hp.pos) h1)
    · obtain ⟨g1, g2, g3⟩ := facs_mem hs x hx
      have hne : ¬ x.1 ∣ lpf n := fun h => by
        have := g1.eq_of_dvd hp h
        rw [this] at g3
        exact hnd g3
      have hc : Nat.Coprime (x.1 ^ (x.2 + 1)) (lpf n ^ mlt (lpf n) n) := Nat.Coprime.pow _ _ (g1.coprime hne)
      rw [← hsm] at hd
      exact ih x hx (hc.dvd_of_dvd_mul_left hd)
theorem natL_prime {q : Nat} (hq : Prm q) : ∀ {l : List (Nat × Nat)}, (∀ x ∈ l, Prm x.1) → q ∣ natL l → ∃ x ∈ l, x.1 = q
  | [], _, h => absurd h (by show ¬ q ∣ 1; exact hq.not_dvd_one)
  | (p, e) :: l, hp, h => by
    have h' : q ∣ p ^ e * natL l := h
    rcases hq.dvd_mul h' with h | h
    · have h1 := hq.dvd_of_dvd_pow h
      have h2 := hq.eq_of_dvd (hp _ (List.mem_cons_self ..)) h1
      exact ⟨_, List.mem_cons_self .., h2.symm⟩
    · obtain ⟨x, hx, hxq⟩ := natL_prime hq (fun x hx => hp x (List.mem_cons_of_mem _ hx)) h
      exact ⟨x, List.mem_cons_of_mem _ hx, hxq⟩

/-- the inner loop: while d divides n / p, at most e rounds -/
def strO (d p : Nat) : Nat → Nat → Nat
  | 0, n => n
  | e + 1, n => if d ∣ n / p then strO d p e (n / p) else n
def ordF (d : Nat) : List (Nat × Nat) → Nat → Nat
  | [], n => n
  | (p, e) :: l, n => ordF d l (strO d p e n)
theorem ordF_append (d : Nat) : ∀ l m n, ordF d (l ++ m) n = ordF d m (ordF d l n)
  | [], m, n => rfl
  | (p, e) :: l, m, n => ordF_append d l m _
theorem strO_spec {d p B : Nat} (hp : Prm p) (hB : 0 < B) (hnB : ¬ p ∣ B) : ∀ e, d ∣ B * p ^ e → ∃ j, strO d p e (B * p ^ e) = B * p ^ j ∧ j ≤ e ∧ d ∣ B * p ^ j ∧ ¬ p ∣ (B * p ^ j) / d
  | 0, h => ⟨0, rfl, Nat.le_refl _, h, fun hd => hnB (by
      have : p ∣ B * p ^ 0 := Nat.dvd_trans hd (Nat.div_dvd_of_dvd h)
      simpa using this)⟩
  | e + 1, h => by
    have e1 : B * p ^ (e + 1) / p = B * p ^ e := by
      rw [Nat.pow_succ, ← Nat.mul_assoc]; exact Nat.mul_div_cancel _ hp.pos
    rw [strO, e1]
    by_cases h1 : d ∣ B * p ^ e
    · rw [if_pos h1]
      obtain ⟨j, g1, g2, g3⟩ := strO_spec hp hB hnB e h1
      exact ⟨j, g1, by omega, g3⟩
    · rw [if_neg h1]
      refine ⟨e + 1, rfl, Nat.le_refl _, h, fun hd => h1 ?_⟩
      have hpos : 0 < d := Nat.pos_of_dvd_of_pos h (Nat.mul_pos hB (Nat.pow_pos hp.pos))
      obtain ⟨k, hk⟩ := hd
      have h2 : d * (B * p ^ (e + 1) / d) = B * p ^ (e + 1) := Nat.mul_div_cancel' h
      rw [hk, Nat.pow_succ, ← Nat.mul_assoc, ← Nat.mul_assoc, Nat.mul_right_comm d p k] at h2
      have h3 := Nat.eq_of_mul_eq_mul_right hp.pos h2
      exact ⟨k, h3.symm⟩
theorem ordF_eq {N d : Nat} (hN : 0 < N) : ∀ (r l : List (Nat × Nat)) (A : Nat), facs N = l ++ r → A ∣ natL l → d ∣ A * natL r → (∀ x ∈ l, ¬ x.1 ∣ (A * natL r) / d) → ordF d r (A * natL r) = d
  | [], l, A, hl, hA, hd, hx => by
    have e : natL l = N := by
      rw [← natL_facs N hN, hl, List.append_nil]
    show A * natL [] = d
    have e1 : A * natL [] = A := Nat.mul_one A
    rw [e1] at hd hx ⊢
    rw [e] at hA
    have hAp : 0 < A := Nat.pos_of_dvd_of_pos hA hN
    have hdp : 0 < d := Nat.pos_of_dvd_of_pos hd hAp
    have h2 : d * (A / d) = A := Nat.mul_div_cancel' hd
    by_cases h3 : 2 ≤ A / d
    · obtain ⟨q, hq, hqd⟩ := exists_prime h3
      have h4 : q ∣ natL l := by
        rw [e]; exact Nat.dvd_trans hqd (Nat.dvd_trans (Nat.div_dvd_of_dvd hd) hA)
      obtain ⟨x, hxl, hxq⟩ := natL_prime hq (l := l) (fun x hx => (facs_mem hN x (by rw [hl]; exact List.mem_append_left _ hx)).1) h4
      exact absurd hqd (by rw [← hxq]; exact hx x hxl)
    · have h5 : 0 < A / d := Nat.div_pos (Nat.le_of_dvd hAp hd) hdp
      have h6 : A / d = 1 := by omega
      rw [h6] at h2
      omega
  | (p, e) :: r, l, A, hl, hA, hd, hx => by
    have hmem : (p, e) ∈ facs N := by rw [hl]; simp
    have hp : Prm p := (facs_mem hN _ hmem).1
    have hnot := facs_not hN _ hmem
    have hNe : N = natL l * (p ^ e * natL r) := by
      rw [← natL_facs N hN, hl, natL_append]; rfl
    have hlp : 0 < natL l := Nat.pos_of_ne_zero fun h => by rw [h, Nat.zero_mul] at hNe; omega
    have hrp : 0 < natL r := Nat.pos_of_ne_zero fun h => by rw [h, Nat.mul_zero, Nat.mul_zero] at hNe; omega
    have hAp : 0 < A := Nat.pos_of_dvd_of_pos hA hlp
    have hB : ¬ p ∣ A * natL r := fun h => hnot (by
      have h1 : p ∣ natL l * natL r := Nat.dvd_trans h (Nat.mul_dvd_mul_right hA _)
      have h2 : p ^ e * p ∣ p ^ e * (natL l * natL r) := Nat.mul_dvd_mul_left _ h1
      rw [← Nat.pow_succ] at h2
      rw [hNe]
      rw [show natL l * (p ^ e * natL r) = p ^ e * (natL l * natL r) by grind]
      exact h2)
    have e1 : A * natL ((p, e) :: r) = A * natL r * p ^ e := by
      show A * (p ^ e * natL r) = _
      grind
    rw [e1] at hd hx ⊢
    obtain ⟨j, g1, g2, g3, g4⟩ := strO_spec hp (Nat.mul_pos hAp hrp) hB e hd
    show ordF d r (strO d p e (A * natL r * p ^ e)) = d
    rw [g1]
    have e2 : A * natL r * p ^ j = A * p ^ j * natL r := by grind
    have hdp : 0 < d := Nat.pos_of_dvd_of_pos hd (Nat.mul_pos (Nat.mul_pos hAp hrp) (Nat.pow_pos hp.pos))
    rw [e2] at g3 g4 ⊢
    refine ordF_eq hN r (l ++ [(p, e)]) (A * p ^ j) (by rw [hl, List.append_assoc]; rfl) ?_ g3 ?_
    · rw [natL_append]
      have : natL [(p, e)] = p ^ e := Nat.mul_one _
      rw [this]
      exact Nat.mul_dvd_mul hA (Nat.pow_dvd_pow p g2)
    · intro x hxm
      rcases List.mem_append.1 hxm with hxm | hxm
      · intro hxd
        apply hx x hxm
        have h1 : A * p ^ j * natL r ∣ A * natL r * p ^ e := by
          rw [← e2]; exact Nat.mul_dvd_mul_left _ (Nat.pow_dvd_pow p g2)
        obtain ⟨k, hk⟩ := h1
        rw [hk, Nat.mul_comm _ k, Nat.mul_div_assoc _ g3]
        exact Nat.dvd_trans hxd ⟨k, Nat.mul_comm _ _⟩
      · rw [List.mem_singleton.1 hxm]; exact g4
/-- the loop of the program finds the order in any multiple of it -/
theorem ordF_facs {N d : Nat} (hN : 0 < N) (h : d ∣ N) : ordF d (facs N) N = d := by
  have := ordF_eq (d := d) hN (facs N) [] 1 rfl ⟨1, rfl⟩ (by rw [Nat.one_mul, natL_facs N hN]; exact h) (by intro x hx; cases hx)
  rwa [Nat.one_mul, natL_facs N hN] at this
theorem strO_bd {d p : Nat} : ∀ e n, strO d p e n ≤ n
  | 0, n => Nat.le_refl _
  | e + 1, n => by
    rw [strO]; split
    · exact Nat.le_trans (strO_bd e _) (Nat.div_le_self _ _)
    · exact Nat.le_refl _
theorem ordF_bd {d : Nat} : ∀ l n, ordF d l n ≤ n
  | [], n => Nat.le_refl _
  | (p, e) :: l, n => Nat.le_trans (ordF_bd l _) (strO_bd _ _)

/-- the order of a unit divides phi -/
theorem prime_not_dvd_of_gcd {a : Int} {m p : Nat} (hg : Int.gcd a m = 1) (hp : Prm p) (hd : p ∣ m) : ¬ (p : Int) ∣ a := fun h => by
  have h1 : p ∣ Int.gcd a m := Nat.dvd_gcd (Int.ofNat_dvd_left.1 h) (by simpa using hd)
  rw [hg] at h1
  exact hp.not_dvd_one h1
theorem phi_pos {m : Nat} (hm : 0 < m) : 1 ≤ phi m := by
  induction m, hm using facs_ind with
  | h1 => rw [phi_one]; omega
  | h2 n hb h0 hs ih =>
    rw [phi_big hb]
    have h1 := (phiF_le (p := lpf n) (e := mlt (lpf n) n) (lpf_spec hb).2.1 (mlt_pos (lpf_spec hb).2.1 h0 (lpf_spec hb).1)).2.2
    have := Int.mul_le_mul h1 ih (by omega) (by omega)
    simpa using this
theorem phi_le {m : Nat} (hm : 0 < m) : phi m ≤ m := (phi_prefix hm (l := facs m) (r := []) (by simp)).2
theorem unit_ord {a : Int} {m : Nat} (hm : 0 < m) (hg : Int.gcd a m = 1) : ∃ d, IsOrd a m d ∧ d ∣ (phi m).toNat := by
  have h1 := euler hm (a := a) fun p hp hd => prime_not_dvd_of_gcd hg hp hd
  have h2 := phi_pos hm
  obtain ⟨d, hd⟩ := ord_exists (a := a) (m := m) (phi m).toNat (by omega) h1
  exact ⟨d, hd, (hd.2 _).1 h1⟩

/-- two ascending lists of the same numbers are the same -/
theorem sorted_ext : ∀ {l m : List Nat}, l.Pairwise (· < ·) → m.Pairwise (· < ·) → (∀ x, x ∈ l ↔ x ∈ m) → l = m
  | [], [], _, _, _ => rfl
  | [], y :: m, _, _, h => by have := (h y).2 (List.mem_cons_self ..); cases this
  | x :: l, [], _, _, h => by have := (h x).1 (List.mem_cons_self ..); cases this
  | x :: l, y :: m, hl, hm, h => by
    rw [List.pairwise_cons] at hl hm
    have e : x = y := by
      rcases List.mem_cons.1 ((h x).1 (List.mem_cons_self ..)) with h1 | h1
      · exact h1
      · rcases List.mem_cons.1 ((h y).2 (List.mem_cons_self ..)) with h2 | h2
        · exact h2.symm
        · have := hm.1 _ h1; have := hl.1 _ h2; omega
    subst e
    congr 1
    refine sorted_ext hl.2 hm.2 fun z => ⟨fun hz => ?_, fun hz => ?_⟩
    · rcases List.mem_cons.1 ((h z).1 (List.mem_cons_of_mem _ hz)) with h1 | h1
      · have := hl.1 _ hz; omega
      · exact h1
    · rcases List.mem_cons.1 ((h z).2 (List.mem_cons_of_mem _ hz)) with h1 | h1
      · have := hm.1 _ hz; omega
      · exact h1
/-- the divisors of n, ascending -/
def isDv (n d : Nat) : Bool := decide (0 < d) && decide (n % d = 0)
def dvs (n : Nat) : List Nat := (List.range (n + 1)).filter (isDv n)
theorem range_sorted (n : Nat) : (List.range n).Pairwise (· < ·) := List.pairwise_lt_range
theorem dvs_sorted (n : Nat) : (dvs n).Pairwise (· < ·) := (range_sorted _).filter _
theorem isDv_iff {n d : Nat} : isDv n d = true ↔ 0 < d ∧ d ∣ n := by
  unfold isDv
  rw [Bool.and_eq_true, decide_eq_true_iff, decide_eq_true_iff, Nat.dvd_iff_mod_eq_zero]
theorem dvs_mem {n d : Nat} (hn : 0 < n) : d ∈ dvs n ↔ d ∣ n := by
  unfold dvs
  rw [List.mem_filter, List.mem_range, isDv_iff]
  refine ⟨fun h => h.2.2, fun h => ⟨?_, Nat.pos_of_dvd_of_pos h hn, h⟩⟩
  have := Nat.le_of_dvd hn h
  omega
/-- the small divisors below d, and the great ones beside them -/
def lowD (n d : Nat) : List Nat := (List.range d).filter (isDv n)
def upD (n d : Nat) : List Nat := (lowD n d).filter (fun x => decide (x * x < n))
def higD (n d : Nat) : List Nat := (upD n d).map fun x => n / x
theorem lowD_yes {n d : Nat} (h : isDv n d = true) : lowD n (d + 1) = lowD n d ++ [d] := by
  unfold lowD; rw [List.range_succ, List.filter_append]; simp [h]
theorem lowD_no {n d : Nat} (h : isDv n d = false) : lowD n (d + 1) = lowD n d := by
  unfold lowD; rw [List.range_succ, List.filter_append]; simp [h]
theorem higD_yes {n d : Nat} (h : isDv n d = true) (hs : d * d < n) : higD n (d + 1) = higD n d ++ [n / d] := by
  unfold higD upD; rw [lowD_yes h, List.filter_append, List.map_append]; simp [hs]
theorem higD_eq {n d : Nat} (h : isDv n d = true) (hs : ¬ d * d < n) : higD n (d + 1) = higD n d := by
  unfold higD upD; rw [lowD_yes h, List.filter_append, List.map_append]; simp [hs]
theorem higD_no {n d : Nat} (h : isDv n d = false) : higD n (d + 1) = higD n d := by
  unfold higD upD; rw [lowD_no h]
theorem lowD_one (n : Nat) : lowD n 1 = [] := by unfold lowD; simp [List.range_succ, isDv]
theorem higD_one (n : Nat) : higD n 1 = [] := by unfold higD upD; rw [lowD_one]; rfl
theorem lowD_len (n d : Nat) : (lowD n d).length ≤ d := by
  unfold lowD; exact Nat.le_trans (List.length_filter_le _ _) (by simp)
theorem higD_len (n d : Nat) : (higD n d).length ≤ d := by
  unfold higD upD; rw [List.length_map]; exact Nat.le_trans (List.length_filter_le _ _) (lowD_len n d)
theorem upD_mem {n d x : Nat} : x ∈ upD n d ↔ x < d ∧ 0 < x ∧ x ∣ n ∧ x * x < n := by
  unfold upD lowD
  rw [List.mem_filter, List.mem_filter, List.mem_range, isDv_iff, decide_eq_true_iff]
  constructor
  · rintro ⟨⟨h1, h2, h3⟩, h4⟩; exact ⟨h1, h2, h3, h4⟩
  · rintro ⟨h1, h2, h3, h4⟩; exact ⟨⟨h1, h2, h3⟩, h4⟩
theorem lowD_mem {n d x : Nat} : x ∈ lowD n d ↔ x < d ∧ 0 < x ∧ x ∣ n := by
  unfold lowD
  rw [List.mem_filter, List.mem_range, isDv_iff]
theorem div_lt_div_dv {n x y : Nat} (hn : 0 < n) (hx : x ∣ n) (hy : y ∣ n) (h : x < y) : n / y < n / x := by
  have h1 : x * (n / x) = n := Nat.mul_div_cancel' hx
  have h2 : y * (n / y) = n := Nat.mul_div_cancel' hy
  apply Nat.lt_of_not_le
  intro h3
  have h4 : x * (n / x) ≤ x * (n / y) := Nat.mul_le_mul_left _ h3
  have h5 : 0 < n / y := Nat.pos_of_ne_zero fun h0 => by rw [h0] at h2; omega
  have h6 : x * (n / y) < y * (n / y) := Nat.mul_lt_mul_of_pos_right h h5
  omega
theorem dvs_split {n d : Nat} (hn : 0 < n) (hd : n < d * d) (hd2 : ∀ x, x < d → x * x ≤ n) : lowD n d ++ (higD n d).reverse = dvs n := by
  refine sorted_ext ?_ (dvs_sorted n) fun x => ?_
  · rw [List.pairwise_append]
    refine ⟨(range_sorted _).filter _, ?_, ?_⟩
    · rw [List.pairwise_reverse]
      unfold higD
      rw [List.pairwise_map]
      have hs : (upD n d).Pairwise (· < ·) := ((range_sorted _).filter _).filter _
      refine List.Pairwise.imp_of_mem ?_ hs
      intro x y hx hy h
      exact div_lt_div_dv hn (upD_mem.1 hx).2.2.1 (upD_mem.1 hy).2.2.1 h
    · intro x hx y hy
      rw [List.mem_reverse] at hy
      unfold higD at hy
      obtain ⟨z, hz, rfl⟩ := List.mem_map.1 hy
      obtain ⟨h1, h2, h3, h4⟩ := upD_mem.1 hz
      obtain ⟨g1, g2, g3⟩ := lowD_mem.1 hx
      have g4 := hd2 x g1
      have h5 : z * (n / z) = n := Nat.mul_div_cancel' h3
      apply Nat.lt_of_not_le
      intro h6
      have h7 : (n / z) * (n / z) ≤ x * x := Nat.mul_le_mul h6 h6
      have h8 : z < n / z := Nat.lt_of_not_le fun h => by
        have := Nat.mul_le_mul_left z h
        omega
      have h9 : z * (n / z) < (n / z) * (n / z) := Nat.mul_lt_mul_of_pos_right h8 (by omega)
      omega
  · rw [List.mem_append, List.mem_reverse, dvs_mem hn]
    unfold higD
    rw [List.mem_map]
    constructor
    · rintro (h | ⟨z, hz, rfl⟩)
      · exact (lowD_mem.1 h).2.2
      · exact Nat.div_dvd_of_dvd (upD_mem.1 hz).2.2.1
    · intro h
      have hx0 : 0 < x := Nat.pos_of_dvd_of_pos h hn
      by_cases hxd : x < d
      · exact .inl (lowD_mem.2 ⟨hxd, hx0, h⟩)
      · right
        have h1 : x * (n / x) = n := Nat.mul_div_cancel' h
        have h2 : d * d ≤ x * x := Nat.mul_le_mul (by omega) (by omega)
        have h3 : n / x < x := Nat.lt_of_not_le fun h3 => by
          have := Nat.mul_le_mul_left x h3
          omega
        have h4 : 0 < n / x := Nat.pos_of_ne_zero fun h0 => by rw [h0] at h1; omega
        have h5 : (n / x) * (n / x) < n := by
          have : (n / x) * (n / x) < x * (n / x) := Nat.mul_lt_mul_of_pos_right h3 h4
          omega
        refine ⟨n / x, upD_mem.2 ⟨?_, h4, Nat.div_dvd_of_dvd h, h5⟩, ?_⟩
        · apply Nat.lt_of_not_le
          intro h6
          have : d * d ≤ (n / x) * (n / x) := Nat.mul_le_mul h6 h6
          omega
        · exact Nat.div_div_self h (by omega)
/-- the first member of an ascending list of divisors that the order divides is the order -/
theorem first_ord {n d i x : Nat} (hn : 0 < n) (hd : d ∣ n) (hx : (dvs n)[i]? = some x) (hdx : d ∣ x) (hb : ∀ j y, j < i → (dvs n)[j]? = some y → ¬ d ∣ y) : x = d := by
  have hm : d ∈ dvs n := (dvs_mem hn).2 hd
  obtain ⟨j, hj, hjd⟩ := List.mem_iff_getElem.1 hm
  have hil : i < (dvs n).length := (List.getElem?_eq_some_iff.1 hx).1
  have hix : (dvs n)[i] = x := (List.getElem?_eq_some_iff.1 hx).2
  have hs := List.pairwise_iff_getElem.1 (dvs_sorted n)
  rcases Nat.lt_trichotomy i j with h | h | h
  · have := hs i j hil hj h
    rw [hix, hjd] at this
    have hx0 : 0 < x := by
      have : x ∈ dvs n := hix ▸ List.getElem_mem hil
      exact Nat.pos_of_dvd_of_pos ((dvs_mem hn).1 this) hn
    have := Nat.le_of_dvd hx0 hdx
    omega
  · subst h; rw [← hix, hjd]
  · exact absurd (Nat.dvd_refl d) (hb j d h (List.getElem?_eq_some_iff.2 ⟨hj, hjd⟩))
end HP
