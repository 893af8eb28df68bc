/- Own texts joined: VgV, VgX. -/
import Derived.Test.YtdjfndfkjbjcpaaGreatDoorSpA
import Derived.Test.YtdjfndfkjbjcpaaGreatDoorPkNumW
/- States in letters: residues, greatest common divisors, Psi and lambda of the reference, the cusp forms' formula. -/
namespace Go.Proofs.YtdjfndfkjbjcpaaGreatDoor
open Go Go.RowKit Go.VG HP
theorem mod_sp (a m : Int) (_ha : -4611686018427387904 ≤ a) (_ha2 : a ≤ 4611686018427387904) (hm : 0 < m) (hm2 : m ≤ 2147483648) : Sp CX 58 [int .i64 a, int .i64 m] (int .i64 (a % m)) := by
  refine fn_spec (C := CX) ⟨15, [], []⟩ [] tysX_ok mixed Tryz.func58 rfl (by kernel_rfl) Tryz.ntmps58 (by kernel_rfl) rfl ?_
  have h1 := Int.tmod_eq_emod (a := a) (b := m)
  have h2 := Int.emod_nonneg a (show m ≠ 0 by omega)
  have h3 := Int.emod_lt_of_pos a hm
  have h4 : m.natAbs = m := by omega
  have h5 : a.tmod m = a % m ∨ a.tmod m = a % m - m := by split at h1 <;> omega
  clear h1 h4
  by_cases hc : a.tmod m < 0
  · repeat' ((conv => whnf); first | refine Ja ?_ | refine Jb ?_ | refine Je ?_)
    refine ⟨⟨_, _, rfl, rfl, AvLe.int ?_⟩⟩
    omega
  · repeat' ((conv => whnf); first | refine Ja ?_ | refine Jf ?_)
    refine ⟨⟨_, _, rfl, rfl, AvLe.int ?_⟩⟩
    omega
set_option maxHeartbeats 400000 in
theorem gcd18_any (a b : Int) (w : World) (ha1 : -9223372036854775807 ≤ a) (ha2 : a ≤ 9223372036854775807) (hb1 : -9223372036854775807 ≤ b) (hb2 : b ≤ 9223372036854775807) :
    Calls Tryz.prog 52 #[.int .i64 a, .int .i64 b] w fun e w' => e = .returned (.int .i64 (gcdW a b)) ∧ ∃ m, w' = w.drewN m := by
  go_enter Tryz.func52, Tryz.ntmps52
  go_wp2
  go_loopw [0, 1] (fun x y wr => ∃ (a' b' : Int) (m : Nat), x = .int .i64 a' ∧ y = .int .i64 b' ∧ -9223372036854775807 ≤ a' ∧ a' ≤ 9223372036854775807 ∧ -9223372036854775807 ≤ b' ∧ b' ≤ 9223372036854775807 ∧ Hid (Int.gcd a' b' = Int.gcd a b) ∧ wr = w.drewN m) (fun _ y _ => (intOf y).natAbs)
  case atStart => exact ⟨a, b, 0, rfl, rfl, ha1, ha2, hb1, hb2, rfl, rfl⟩
  case round =>
    obtain ⟨a', b', m, rfl, rfl, h1, h2, h3, h4, hg, rfl⟩ := hrel
    by_cases hb : b' = 0
    · obtain rfl := hb
      have e := gcdW_of hg (by omega) h2
      have E := Lib.hid e
      clear e
      by_cases hn : a' < 0
      · go_wp2
        go_ret
        exact ⟨ret_int (by rw [E.out]; omega), m, rfl⟩
      · go_wp2
        go_ret
        exact ⟨ret_int (by rw [E.out]; omega), m, rfl⟩
    · have ht := tmod_abs_lt a' hb
      go_wp2
      go_quiet (fail)
      go_wp2
      go_roundw
      case rel =>
        exact ⟨b', a'.tmod b', m + nq, rfl, rfl, h3, h4, by omega, by omega, (gcd_tmod a' b').trans hg, by simp⟩
      case measure => simpa [intOf] using ht
theorem gcdW_eq {a b : Int} (h : -9223372036854775807 ≤ a) (h2 : a ≤ 9223372036854775807) (k : -9223372036854775807 ≤ b) (k2 : b ≤ 9223372036854775807) : gcdW a b = (Int.gcd a b : Nat) := by
  unfold gcdW
  rw [if_neg]
  intro hg
  by_cases ha : a = 0
  · subst ha
    rw [Int.gcd_zero_left] at hg
    omega
  · have := Int.gcd_le_natAbs_left (b := b) ha
    omega
theorem gcd18_sp (a b : Int) (ha1 : -9223372036854775807 ≤ a) (ha2 : a ≤ 9223372036854775807) (hb1 : -9223372036854775807 ≤ b) (hb2 : b ≤ 9223372036854775807) : Sp CX 52 [int .i64 a, int .i64 b] (int .i64 (Int.gcd a b : Nat)) :=
  .of_val (vs0 := [.int .i64 a, .int .i64 b]) (callOk Tryz.func52 (by kernel_rfl) (by kernel_rfl)) rfl (fun _ _ _ h => argsX h) (fun _ _ => ⟨rfl, rfl⟩) fun w _ => (gcd18_any a b w ha1 ha2 hb1 hb2).mono fun _ _ ⟨h, m, e⟩ => ⟨by rw [h, gcdW_eq ha1 ha2 hb1 hb2], e ▸ drew_below w m⟩
def pq (p q : Nat) : Bool := (List.range (q - 2)).all fun d => !(p % (d + 2) == 0)
theorem pq_succ {p q : Nat} (hq : 2 ≤ q) : pq p (q + 1) = (pq p q && !(p % q == 0)) := by
  unfold pq
  rw [show q + 1 - 2 = (q - 2) + 1 by omega, List.range_succ, List.all_append]
  simp [show q - 2 + 2 = q by omega]
theorem pq_prm {p : Nat} (hp : 2 ≤ p) : pq p p = true ↔ Prm p := by
  rw [← prmC_iff]
  unfold prmC pq
  simp [hp]
theorem pq_next {p q : Nat} (hq : 2 ≤ q) (h : pq p q = true) : (!decide ((p : Int).tmod q = 0)) = pq p (q + 1) := by
  have e : (p : Int).tmod q = ((p % q : Nat) : Int) := (Int.ofNat_tmod p q).symm
  rw [pq_succ hq, h, e, Bool.true_and]
  congr 1
  rw [Bool.eq_iff_iff, decide_eq_true_iff, beq_iff_eq]
  omega
theorem pq_no {p q : Nat} (hq : 2 ≤ q) (h : pq p q = false) : false = pq p (q + 1) := by
  rw [pq_succ hq, h]; rfl
theorem stpN_psi {n k : Nat} (hn : 0 < n) (hp : Prm k) (hd : k ∣ n) : (stpN psiF n k).tdiv k * ((k : Int) + 1) = stpN psiF n (k + 1) := by
  obtain ⟨h1, h2⟩ := ixN_yes hn hp hd
  obtain ⟨m1, m2, m3, _⟩ := facs_bounds hn (List.mem_of_getElem? h1)
  unfold stpN
  rw [h2]
  exact (stepN_step h1 (by omega) m3 psiF_eq).2
set_option maxHeartbeats 4000000 in
set_option maxRecDepth 20000 in
theorem psi21_sp (n : Nat) (hn0 : 1 ≤ n) (hn : n ≤ 1000) : Sp CX 55 [int .i64 n] (int .i64 (psi n)) := by
  have hbd : ∀ k, 0 ≤ stpN psiF n k ∧ stpN psiF n k ≤ (n : Int) * n := fun k => psiN_bd hn0 _
  have hnn : (n : Int) * n ≤ 1000000 := Int.mul_le_mul (c := 1000) (d := 1000) (by omega) (by omega) (by omega) (by omega)
  have h2 := stpN_two psiF (n := n) (by omega)
  refine fn_spec (C := CX) ⟨39, [], []⟩ [] tysX_ok mixed Tryz.func55 rfl (by kernel_rfl) Tryz.ntmps55 (by kernel_rfl) rfl ?_
  repeat' ((conv => whnf); first | refine Ja ?_)
  refine ⟨⟨Nat, fun p => ⟨[(0, int .i64 n), (3, int .i64 (stpN psiF n p)), (4, int .i64 p)], [], 0⟩, fun p => 2 ≤ p ∧ p ≤ n + 2, fun p => n + 3 - p, ⟨2, [], ⟨Nat.le_refl _, by omega⟩, Ent.g⟩, ?_⟩⟩
  rintro p ⟨hp2, hpn⟩
  have b1 := hbd p
  have b2 := hbd (p + 1)
  by_cases hd : p ≤ n
  · repeat' ((conv => whnf); first | refine Je ?_)
    refine ⟨⟨Nat, fun q => ⟨[(0, int .i64 n), (3, int .i64 (stpN psiF n p)), (4, int .i64 p), (5, bool (pq p q)), (6, int .i64 q)], [], 0⟩, fun q => 2 ≤ q ∧ q ≤ p, fun q => p - q, ⟨2, [], ⟨Nat.le_refl _, hp2⟩, Ent.g⟩, ?_⟩⟩
    rintro q ⟨hq2, hqp⟩
    by_cases hq : q < p
    · cases hB : pq p q
      · have hx := pq_no hq2 hB
        repeat' ((conv => whnf); first | refine Jb ?_ | refine Je ?_ | refine Jf ?_)
        exact ⟨q + 1, [], ⟨by omega, hq⟩, by show p - (q + 1) < p - q; omega, Ent.g⟩
      · have hx := pq_next hq2 hB
        repeat' ((conv => whnf); first | refine Ja ?_ | refine Jb ?_ | refine Je ?_)
        exact ⟨q + 1, [], ⟨by omega, hq⟩, by show p - (q + 1) < p - q; omega, Ent.g⟩
    · obtain rfl : q = p := by omega
      have em : (n : Int).tmod q = ((n % q : Nat) : Int) := (Int.ofNat_tmod n q).symm
      by_cases hpr : Prm q ∧ q ∣ n
      · have hB : pq q q = true := (pq_prm hp2).2 hpr.1
        have hz : n % q = 0 := Nat.mod_eq_zero_of_dvd hpr.2
        have hs := stpN_psi (n := n) (by omega) hpr.1 hpr.2
        have hq1 : 0 ≤ (stpN psiF n q).tdiv q := Int.tdiv_nonneg b1.1 (by omega)
        have hq3 : (stpN psiF n q).tdiv q ≤ stpN psiF n q := Int.tdiv_le_self _ b1.1
        repeat' ((conv => whnf); first | refine Ja ?_ | refine Jb ?_ | refine Je ?_ | refine Jf ?_)
        exact ⟨q + 1, [], ⟨by omega, by omega⟩, by show n + 3 - (q + 1) < n + 3 - q; omega, Ent.g⟩
      · have hs := stpN_no psiF (n := n) (by omega) hpr
        cases hB : pq q q
        · repeat' ((conv => whnf); first | refine Jb ?_ | refine Jf ?_)
          exact ⟨q + 1, [], ⟨by omega, by omega⟩, by show n + 3 - (q + 1) < n + 3 - q; omega, Ent.g⟩
        · have hz : n % q ≠ 0 := fun h => hpr ⟨(pq_prm hp2).1 hB, Nat.dvd_of_mod_eq_zero h⟩
          repeat' ((conv => whnf); first | refine Ja ?_ | refine Jb ?_ | refine Je ?_ | refine Jf ?_)
          exact ⟨q + 1, [], ⟨by omega, by omega⟩, by show n + 3 - (q + 1) < n + 3 - q; omega, Ent.g⟩
  · have he := stpN_end psiF (n := n) (k := p) (by omega) (by omega)
    repeat' ((conv => whnf); first | refine Jf ?_)
    refine ⟨⟨_, _, rfl, rfl, AvLe.int ?_⟩⟩
    exact he
end Go.Proofs.YtdjfndfkjbjcpaaGreatDoor

/- States in letters: square-free numbers, symbols, the formula. -/
namespace Go.Proofs.YtdjfndfkjbjcpaaGreatDoor
open Go Go.RowKit Go.VG HP
def freeB (m : Nat) : Bool := (List.range (m + 1)).all fun d => !(decide (2 ≤ d) && decide (d * d ≤ m) && m % (d * d) == 0)
theorem freeB_no {m d : Nat} (h2 : 2 ≤ d) (h3 : d * d ≤ m) (h : m % (d * d) = 0) : freeB m = false := by
  rw [Bool.eq_false_iff]
  intro hf
  have hd : d ≤ d * d := Nat.le_mul_of_pos_left d (by omega)
  have := List.all_eq_true.1 hf d (List.mem_range.2 (by omega))
  simp [h2, h3, h] at this
theorem freeB_yes {m p : Nat} (h : ∀ d, 2 ≤ d → d < p → m % (d * d) ≠ 0) (hp : m < p * p) : freeB m = true := by
  unfold freeB
  rw [List.all_eq_true]
  intro d _
  cases hc : (decide (2 ≤ d) && decide (d * d ≤ m) && m % (d * d) == 0) with
  | false => rfl
  | true =>
    simp only [Bool.and_eq_true, decide_eq_true_eq, beq_iff_eq] at hc
    have hlt : d < p := by
      apply Nat.lt_of_not_le
      intro hpd
      have := Nat.mul_le_mul hpd hpd
      omega
    exact absurd hc.2 (h d hc.1.1 hlt)
set_option maxHeartbeats 2000000 in
theorem free_sp (n : Int) (h1 : -1000000 ≤ n) (h2 : n ≤ 1000000) : Sp CX 133 [int .i64 n] (bool (freeB n.natAbs)) := by
  refine fn_spec (C := CX) ⟨21, [], []⟩ [] tysX_ok mixed Tryz.func133 rfl (by kernel_rfl) Tryz.ntmps133 (by kernel_rfl) rfl ?_
  obtain ⟨m, hm⟩ : ∃ m, m = n.natAbs := ⟨_, rfl⟩
  have hmx : (if n < -n then -n else n) = (m : Int) := by split <;> omega
  rw [← hm]
  repeat' ((conv => whnf); first | refine Jb ?_)
  refine ⟨⟨Nat, fun p => ⟨[(0, int .i64 m), (3, int .i64 p)], [], 0⟩, fun p => 2 ≤ p ∧ p ≤ 2000 + m ∧ Hid (∀ d, 2 ≤ d → d < p → m % (d * d) ≠ 0), fun p => m + 2001 - p, ⟨2, [], ⟨Nat.le_refl _, by omega, fun d a b => by omega⟩, by
    refine ⟨?_, ?_, rfl⟩
    · exact .cons (AvLe.int hmx) (.cons (AvLe.refl _) .nil)
    · exact .nil⟩, ?_⟩⟩
  rintro p ⟨k1, k2, k3⟩
  have hpp : p ≤ p * p := Nat.le_mul_of_pos_left p (by omega)
  have hsq : (p : Int) * p ≤ 1002000 * 1002000 := Int.mul_le_mul (by omega) (by omega) (by omega) (by omega)
  have ec : ((p * p : Nat) : Int) = (p : Int) * p := Int.natCast_mul p p
  by_cases hc : p * p ≤ m
  · have em : (m : Int).tmod ((p : Int) * p) = ((m % (p * p) : Nat) : Int) := by rw [← ec]; exact (Int.ofNat_tmod m (p * p)).symm
    have hpos : (p : Int) * p ≠ 0 := by omega
    by_cases hz : m % (p * p) = 0
    · have hf := freeB_no k1 hc hz
      repeat' ((conv => whnf); first | refine Ja ?_ | refine Jb ?_ | refine Je ?_)
      refine ⟨⟨_, _, rfl, rfl, ?_⟩⟩
      exact AvLe.bool hf.symm
    · repeat' ((conv => whnf); first | refine Ja ?_ | refine Jb ?_ | refine Je ?_ | refine Jf ?_)
      exact ⟨p + 1, [], ⟨by omega, by omega, fun d a b => by
        by_cases hd : d = p
        · subst hd; exact hz
        · exact k3.out d a (by omega)⟩, by show m + 2001 - (p + 1) < m + 2001 - p; omega, Ent.g⟩
  · have hf := freeB_yes k3.out (by omega)
    repeat' ((conv => whnf); first | refine Jb ?_ | refine Jf ?_)
    refine ⟨⟨_, _, rfl, rfl, ?_⟩⟩
    exact AvLe.bool hf.symm
theorem tdiv_bd {d k B : Int} (h1 : -B ≤ d) (h2 : d ≤ B) : -B ≤ d.tdiv k ∧ d.tdiv k ≤ B := by
  have h := Int.natAbs_tdiv d k
  have h3 := Nat.div_le_self d.natAbs k.natAbs
  change (d.tdiv k).natAbs = d.natAbs / k.natAbs at h
  generalize d.tdiv k = x at *
  generalize d.natAbs / k.natAbs = y at *
  omega
def fundB (d : Int) : Bool := if d = 0 ∨ d = 1 then false else (decide (d % 4 = 1) && freeB d.natAbs) || (decide (d.tmod 4 = 0) && decide (2 ≤ d.tdiv 4 % 4) && freeB (d.tdiv 4).natAbs)
set_option maxHeartbeats 4000000 in
theorem fund28_sp (d : Int) (h1 : -1000000 ≤ d) (h2 : d ≤ 1000000) : Sp CX 97 [int .i64 d] (bool (fundB d)) := by
  refine fn_spec (C := CX) ⟨32, [], []⟩ [] tysX_ok mixed Tryz.func97 rfl (by kernel_rfl) Tryz.ntmps97 (by kernel_rfl) rfl ?_
  have hq1 : -1000000 ≤ d.tdiv 4 ∧ d.tdiv 4 ≤ 1000000 := tdiv_bd h1 h2
  by_cases c0 : d = 0
  · subst c0
    repeat' ((conv => whnf); first | refine Je ?_)
    refine ⟨⟨_, _, rfl, rfl, ?_⟩⟩
    exact AvLe.bool rfl
  by_cases c1 : d = 1
  · subst c1
    repeat' ((conv => whnf); first | refine Je ?_ | refine Jf ?_)
    refine ⟨⟨_, _, rfl, rfl, ?_⟩⟩
    exact AvLe.bool rfl
  obtain ⟨B1, f1⟩ : ∃ B, B = freeB d.natAbs := ⟨_, rfl⟩
  obtain ⟨B2, f2⟩ : ∃ B, B = freeB (d.tdiv 4).natAbs := ⟨_, rfl⟩
  have e0 : fundB d = ((decide (d % 4 = 1) && B1) || (decide (d.tmod 4 = 0) && decide (2 ≤ d.tdiv 4 % 4) && B2)) := by unfold fundB; rw [if_neg (by omega), f1, f2]
  have s1 := free_sp d h1 h2
  have s2 := free_sp (d.tdiv 4) hq1.1 hq1.2
  rw [← f1] at s1
  rw [← f2] at s2
  rw [e0]
  clear e0 f1 f2
  by_cases c2 : d % 4 = 1
  · cases B1
    · by_cases c3 : d.tmod 4 = 0
      · exact absurd (Int.emod_eq_zero_of_dvd (Int.dvd_of_tmod_eq_zero c3)) (by omega)
      · repeat' ((conv => whnf); first | refine Ja ?_ | refine Je ?_ | refine Jf ?_ | refine Jy (mod_sp d 4 (by omega) (by omega) (by omega) (by omega)) ?_ | refine Jy s1 ?_ | refine Jy s2 ?_)
        conv => whnf
        refine ⟨⟨_, _, rfl, rfl, ?_⟩⟩
        exact AvLe.bool (by simp_all)
    · repeat' ((conv => whnf); first | refine Je ?_ | refine Jf ?_ | refine Jy (mod_sp d 4 (by omega) (by omega) (by omega) (by omega)) ?_ | refine Jy s1 ?_ | refine Jy s2 ?_)
      refine ⟨⟨_, _, rfl, rfl, ?_⟩⟩
      exact AvLe.bool (by simp_all)
  · by_cases c3 : d.tmod 4 = 0
    · by_cases c4 : 2 ≤ d.tdiv 4 % 4
      · cases B2
        · repeat' ((conv => whnf); first | refine Ja ?_ | refine Je ?_ | refine Jf ?_ | refine Jy (mod_sp d 4 (by omega) (by omega) (by omega) (by omega)) ?_ | refine Jy (mod_sp (d.tdiv 4) 4 (by omega) (by omega) (by omega) (by omega)) ?_ | refine Jy s1 ?_ | refine Jy s2 ?_)
          refine ⟨⟨_, _, rfl, rfl, ?_⟩⟩
          exact AvLe.bool (by simp_all)
        · repeat' ((conv => whnf); first | refine Ja ?_ | refine Je ?_ | refine Jf ?_ | refine Jy (mod_sp d 4 (by omega) (by omega) (by omega) (by omega)) ?_ | refine Jy (mod_sp (d.tdiv 4) 4 (by omega) (by omega) (by omega) (by omega)) ?_ | refine Jy s1 ?_ | refine Jy s2 ?_)
          refine ⟨⟨_, _, rfl, rfl, ?_⟩⟩
          exact AvLe.bool (by simp_all)
      · repeat' ((conv => whnf); first | refine Ja ?_ | refine Je ?_ | refine Jf ?_ | refine Jy (mod_sp d 4 (by omega) (by omega) (by omega) (by omega)) ?_ | refine Jy (mod_sp (d.tdiv 4) 4 (by omega) (by omega) (by omega) (by omega)) ?_ | refine Jy s1 ?_ | refine Jy s2 ?_)
        refine ⟨⟨_, _, rfl, rfl, ?_⟩⟩
        exact AvLe.bool (by simp [c2, c3, c4])
    · repeat' ((conv => whnf); first | refine Ja ?_ | refine Jf ?_ | refine Jy (mod_sp d 4 (by omega) (by omega) (by omega) (by omega)) ?_ | refine Jy (mod_sp (d.tdiv 4) 4 (by omega) (by omega) (by omega) (by omega)) ?_ | refine Jy s1 ?_ | refine Jy s2 ?_)
      refine ⟨⟨_, _, rfl, rfl, ?_⟩⟩
      exact AvLe.bool (by simp_all)
end Go.Proofs.YtdjfndfkjbjcpaaGreatDoor

