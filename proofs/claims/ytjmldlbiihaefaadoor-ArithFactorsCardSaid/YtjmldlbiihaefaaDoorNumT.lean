import Derived.Test.YtjmldlbiihaefaaDoorNumP
import Derived.Test.YtjmldlbiihaefaaDoorNumI
/-! Plain number theory: the divisors as they are gathered prime by prime, and sorted. -/
namespace HP

/-- the list after j rounds at the prime p -/
def dvE (p : Nat) (L : List Nat) : Nat → List Nat
  | 0 => L
  | j + 1 => dvE p L j ++ L.map (· * p ^ (j + 1))
def dvF (L : List Nat) : List (Nat × Nat) → List Nat
  | [] => L
  | (p, e) :: l => dvF (dvE p L e) l
theorem dvF_append : ∀ (l m : List (Nat × Nat)) (L : List Nat), dvF L (l ++ m) = dvF (dvF L l) m
  | [], _, _ => rfl
  | (_, _) :: l, m, _ => dvF_append l m _
theorem dvE_mem {p x : Nat} {L : List Nat} : ∀ e, x ∈ dvE p L e ↔ ∃ j, j ≤ e ∧ ∃ y, y ∈ L ∧ x = y * p ^ j
  | 0 => by
    constructor
    · intro h; exact ⟨0, Nat.le_refl _, x, h, by rw [Nat.pow_zero, Nat.mul_one]⟩
    · rintro ⟨j, hj, y, hy, rfl⟩
      obtain rfl : j = 0 := by omega
      rw [Nat.pow_zero, Nat.mul_one]; exact hy
  | e + 1 => by
    rw [dvE, List.mem_append, dvE_mem e, List.mem_map]
    constructor
    · rintro (⟨j, hj, h⟩ | ⟨y, hy, rfl⟩)
      · exact ⟨j, by omega, h⟩
      · exact ⟨e + 1, Nat.le_refl _, y, hy, rfl⟩
    · rintro ⟨j, hj, y, hy, rfl⟩
      by_cases h : j = e + 1
      · subst h; exact .inr ⟨y, hy, rfl⟩
      · exact .inl ⟨j, by omega, y, hy, rfl⟩
theorem dvE_len (p : Nat) (L : List Nat) : ∀ e, (dvE p L e).length = L.length * (e + 1)
  | 0 => by simp [dvE]
  | e + 1 => by rw [dvE, List.length_append, dvE_len p L e, List.length_map, Nat.mul_add L.length (e + 1), Nat.mul_one]
theorem dvE_dvd {p m : Nat} {L : List Nat} (hp : Prm p) (hm : 0 < m) (hpm : ¬ p ∣ m) (hL : ∀ x, x ∈ L ↔ x ∣ m) (e x : Nat) : x ∈ dvE p L e ↔ x ∣ m * p ^ e := by
  rw [dvE_mem]
  constructor
  · rintro ⟨j, hj, y, hy, rfl⟩
    exact Nat.mul_dvd_mul ((hL y).1 hy) (Nat.pow_dvd_pow p hj)
  · intro h
    have hx0 : 0 < x := Nat.pos_of_dvd_of_pos h (Nat.mul_pos hm (Nat.pow_pos hp.pos))
    have h1 := strip_mul p x
    have h2 := strip_not (p := p) (n := x) hp.1 hx0
    have hy : strip p x ∣ m := by
      have h3 : strip p x ∣ m * p ^ e := Nat.dvd_trans (strip_dvd p x) h
      have hc : Nat.Coprime (strip p x) (p ^ e) := (Nat.Coprime.pow_left e (hp.coprime h2)).symm
      exact hc.dvd_of_dvd_mul_right h3
    have hk : p ^ mlt p x ∣ p ^ e := by
      have h3 : p ^ mlt p x ∣ m * p ^ e := Nat.dvd_trans (mlt_dvd p x) h
      have hc : Nat.Coprime (p ^ mlt p x) m := Nat.Coprime.pow_left _ (hp.coprime hpm)
      exact hc.dvd_of_dvd_mul_left h3
    have hke : mlt p x ≤ e := by
      apply Nat.le_of_not_lt
      intro h3
      have h4 := Nat.le_of_dvd (Nat.pow_pos hp.pos) hk
      have h5 : p ^ e < p ^ mlt p x := Nat.pow_lt_pow_right hp.1 h3
      omega
    exact ⟨mlt p x, hke, strip p x, (hL _).2 hy, by rw [Nat.mul_comm]; exact h1.symm⟩
theorem dvE_nodup {p m : Nat} {L : List Nat} (hp : Prm p) (hm : 0 < m) (hpm : ¬ p ∣ m) (hL : ∀ x, x ∈ L ↔ x ∣ m) (hn : L.Nodup) : ∀ e, (dvE p L e).Nodup
  | 0 => hn
  | e + 1 => by
    rw [dvE, List.nodup_append]
    refine ⟨dvE_nodup hp hm hpm hL hn e, ?_, ?_⟩
    · unfold List.Nodup
      rw [List.pairwise_map]
      refine List.Pairwise.imp ?_ hn
      intro a b hab h
      exact hab (Nat.eq_of_mul_eq_mul_right (Nat.pow_pos hp.pos) h)
    · intro a ha b hb hab
      subst hab
      obtain ⟨j, hj, y, hy, h1⟩ := (dvE_mem e).1 ha
      obtain ⟨z, hz, h2⟩ := List.mem_map.1 hb
      obtain ⟨k, hk⟩ : ∃ k, e + 1 = j + 1 + k := ⟨e - j, by omega⟩
      have h3 : y * p ^ j = z * (p ^ (j + 1 + k)) := by rw [← hk, h2]; exact h1.symm
      have h4 : y = z * p ^ k * p := by
        apply Nat.eq_of_mul_eq_mul_right (Nat.pow_pos hp.pos (n := j))
        rw [h3, Nat.pow_add, Nat.pow_succ]
        grind
      have h5 := (hL y).1 hy
      exact hpm (Nat.dvd_trans ⟨z * p ^ k, by rw [h4, Nat.mul_comm]⟩ h5)
/-- what the list holds behind a prefix of the factorization -/
theorem dvF_spec {N : Nat} (hN : 0 < N) : ∀ (r l : List (Nat × Nat)) (L : List Nat), facs N = l ++ r → (∀ x, x ∈ L ↔ x ∣ natL l) → L.Nodup → (∀ x, x ∈ dvF L r ↔ x ∣ N) ∧ (dvF L r).Nodup
  | [], l, L, hl, hL, hn => by
    have e : natL l = N := by rw [← natL_facs N hN, hl, List.append_nil]
    rw [e] at hL
    exact ⟨hL, hn⟩
  | (p, e) :: r, l, L, hl, hL, hn => by
    have hmem : (p, e) ∈ facs N := by rw [hl]; simp
    have hp : Prm p := (facs_mem hN _ hmem).1
    have hnot := facs_not hN _ hmem
    have hNe : N = natL l * (p ^ e * natL r) := by rw [← natL_facs N hN, hl, natL_append]; rfl
    have hlp : 0 < natL l := Nat.pos_of_ne_zero fun h => by rw [h, Nat.zero_mul] at hNe; omega
    have hpl : ¬ p ∣ natL l := fun h => hnot (by
      rw [hNe]
      have h1 : p * p ^ e ∣ natL l * p ^ e := Nat.mul_dvd_mul_right h _
      rw [show natL l * (p ^ e * natL r) = natL l * p ^ e * natL r by grind, show p ^ (e + 1) = p * p ^ e by rw [Nat.pow_succ, Nat.mul_comm]]
      exact Nat.dvd_trans h1 ⟨natL r, rfl⟩)
    refine dvF_spec hN r (l ++ [(p, e)]) (dvE p L e) (by rw [hl, List.append_assoc]; rfl) ?_ (dvE_nodup hp hlp hpl hL hn e)
    have e1 : natL (l ++ [(p, e)]) = natL l * p ^ e := by
      rw [natL_append]
      show natL l * (p ^ e * 1) = _
      rw [Nat.mul_one]
    rw [e1]
    exact dvE_dvd hp hlp hpl hL e
theorem dvF_facs {N : Nat} (hN : 0 < N) : (∀ x, x ∈ dvF [1] (facs N) ↔ x ∣ N) ∧ (dvF [1] (facs N)).Nodup :=
  dvF_spec hN (facs N) [] [1] rfl (fun x => by
    rw [List.mem_singleton]
    exact (Nat.dvd_one).symm) (by simp)
theorem dvF_pre {N : Nat} (hN : 0 < N) {l r : List (Nat × Nat)} (h : facs N = l ++ r) : ∀ x ∈ dvF [1] l, x ∣ natL l := by
  have hA := facs_asc1 N hN
  intro x
  have hl : 0 < natL l := by
    have hNe : N = natL l * natL r := by rw [← natL_facs N hN, h, natL_append]
    exact Nat.pos_of_ne_zero fun h => by rw [h, Nat.zero_mul] at hNe; omega
  have key : ∀ (m : List (Nat × Nat)) (L : List Nat) (k : Nat), (∀ x ∈ L, x ∣ k) → ∀ x ∈ dvF L m, x ∣ k * natL m := by
    intro m
    induction m with
    | nil => intro L k hL x hx; rw [show k * natL [] = k from Nat.mul_one k]; exact hL x hx
    | cons y m ih =>
      obtain ⟨p, e⟩ := y
      intro L k hL x hx
      have := ih (dvE p L e) (k * p ^ e) (fun x hx => by
        obtain ⟨j, hj, y, hy, rfl⟩ := (dvE_mem e).1 hx
        exact Nat.mul_dvd_mul (hL y hy) (Nat.pow_dvd_pow p hj)) x hx
      rw [Nat.mul_assoc] at this
      exact this
  intro hx
  have := key l [1] 1 (fun x hx => by rw [List.mem_singleton.1 hx]; exact Nat.dvd_refl _) x hx
  rwa [Nat.one_mul] at this
def cntF (_ e : Nat) : Int := (e : Int) + 1
theorem dvF_len : ∀ (m : List (Nat × Nat)) (L : List Nat), ((dvF L m).length : Int) = L.length * prodL cntF m
  | [], L => by simp [dvF, prodL]
  | (p, e) :: m, L => by
    rw [dvF, dvF_len m, dvE_len]
    show _ = (L.length : Int) * (((e : Int) + 1) * prodL cntF m)
    rw [Int.natCast_mul, Int.natCast_add, Int.mul_assoc]; rfl
theorem cntF_bd {p e : Nat} (hp : 2 ≤ p) (_ : 1 ≤ e) : 1 ≤ cntF p e ∧ cntF p e ≤ pwF p e := by
  unfold cntF pwF
  have h1 := lt_two_pow e
  have h2 : 2 ^ e ≤ p ^ e := Nat.pow_le_pow_left hp e
  have h3 : e + 1 ≤ p ^ e := by omega
  have h4 : ((e + 1 : Nat) : Int) ≤ ((p ^ e : Nat) : Int) := Int.ofNat_le.2 h3
  rw [Int.natCast_pow, Int.natCast_add] at h4
  exact ⟨by omega, h4⟩
theorem cnt_bd {N : Nat} (hN : 0 < N) {l r : List (Nat × Nat)} (h : facs N = l ++ r) : 1 ≤ prodL cntF l ∧ prodL cntF l ≤ N := part_bd (fun _ _ => cntF_bd) hN h
theorem dvF_length {N : Nat} (hN : 0 < N) {l r : List (Nat × Nat)} (h : facs N = l ++ r) : (dvF [1] l).length ≤ N ∧ 1 ≤ (dvF [1] l).length := by
  have h1 := dvF_len l [1]
  have h2 := cnt_bd hN h
  simp only [List.length_singleton] at h1
  omega
/-- two ascending lists of the same integers are the same -/
theorem sorted_extI : ∀ {l m : List Int}, l.Pairwise (· < ·) → m.Pairwise (· < ·) → (∀ x, x ∈ l ↔ x ∈ m) → l = m
  | [], [], _, _, _ => rfl
  | [], y :: m, _, _, h => by have := (h y).2 (List.mem_cons_self ..); cases this
  | x :: l, [], _, _, h => by have := (h x).1 (List.mem_cons_self ..); cases this
  | x :: l, y :: m, hl, hm, h => by
    rw [List.pairwise_cons] at hl hm
    have e : x = y := by
      rcases List.mem_cons.1 ((h x).1 (List.mem_cons_self ..)) with h1 | h1
      · exact h1
      · rcases List.mem_cons.1 ((h y).2 (List.mem_cons_self ..)) with h2 | h2
        · exact h2.symm
        · have := hm.1 _ h1; have := hl.1 _ h2; omega
    subst e
    congr 1
    refine sorted_extI hl.2 hm.2 fun z => ⟨fun hz => ?_, fun hz => ?_⟩
    · rcases List.mem_cons.1 ((h z).1 (List.mem_cons_of_mem _ hz)) with h1 | h1
      · have := hl.1 _ hz; omega
      · exact h1
    · rcases List.mem_cons.1 ((h z).2 (List.mem_cons_of_mem _ hz)) with h1 | h1
      · have := hm.1 _ hz; omega
      · exact h1
def castL (l : List Nat) : List Int := l.map fun (x : Nat) => (x : Int)
theorem sort_dvs {N : Nat} (hN : 0 < N) {D : List Nat} (hD : ∀ x, x ∈ D ↔ x ∣ N) (hn : D.Nodup) : (castL D).mergeSort (fun x y => decide (x ≤ y)) = castL (dvs N) := by
  have hperm := List.mergeSort_perm (castL D) (fun x y => decide (x ≤ y))
  have hsort : ((castL D).mergeSort (fun x y => decide (x ≤ y))).Pairwise (fun x y => decide (x ≤ y) = true) :=
    List.pairwise_mergeSort (fun a b c h1 h2 => by rw [decide_eq_true_iff] at *; omega) (fun a b => by rw [Bool.or_eq_true, decide_eq_true_iff, decide_eq_true_iff]; omega) _
  have hnd : (castL D).Nodup := by
    unfold castL List.Nodup
    rw [List.pairwise_map]
    refine List.Pairwise.imp ?_ hn
    intro a b hab h
    exact hab (by omega)
  have hnd2 : ((castL D).mergeSort (fun x y => decide (x ≤ y))).Nodup := hperm.nodup_iff.2 hnd
  refine sorted_extI ?_ ?_ ?_
  · refine (hsort.and hnd2).imp ?_
    rintro a b ⟨h1, h2⟩
    rw [decide_eq_true_iff] at h1
    omega
  · unfold castL
    rw [List.pairwise_map]
    refine (dvs_sorted N).imp ?_
    intro a b h
    omega
  · intro x
    rw [hperm.mem_iff]
    unfold castL
    rw [List.mem_map, List.mem_map]
    constructor
    · rintro ⟨y, hy, rfl⟩; exact ⟨y, (dvs_mem hN).2 ((hD y).1 hy), rfl⟩
    · rintro ⟨y, hy, rfl⟩; exact ⟨y, (hD y).2 ((dvs_mem hN).1 hy), rfl⟩
theorem dvs_len {N : Nat} (hN : 0 < N) : ((dvs N).length : Int) = prodL cntF (facs N) := by
  obtain ⟨h1, h2⟩ := dvF_facs hN
  have h3 := congrArg List.length (sort_dvs hN h1 h2)
  rw [List.length_mergeSort] at h3
  unfold castL at h3
  rw [List.length_map, List.length_map] at h3
  rw [← h3, dvF_len]
  simp
end HP
