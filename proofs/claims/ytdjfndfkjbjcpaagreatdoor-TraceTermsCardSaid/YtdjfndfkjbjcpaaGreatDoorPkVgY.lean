/- Own texts joined: VgY, DmA, DmB. -/
import Derived.Test.YtdjfndfkjbjcpaaGreatDoorPkVgV
/- States in letters: symbols, the formula, the cusp forms. -/
namespace Go.Proofs.YtdjfndfkjbjcpaaGreatDoor
open Go Go.RowKit Go.VG HP
def sqN (p r : Nat) : Bool := (List.range p).any fun x => x * x % p == r
theorem sq_all : allB 121 (fun p => !prmC p || p == 2 || allB p fun r => r == 0 || (if sqN p r then r ^ ((p - 1) / 2) % p == 1 else r ^ ((p - 1) / 2) % p == p - 1)) = true := by decide +kernel
def sqB (d : Int) (p : Nat) : Bool := (List.range (p - 1)).any fun x => decide ((((x + 1 : Nat) : Int) * ((x + 1 : Nat) : Int) - d) % p = 0)
def symV (d : Int) (p : Nat) : Int := if d.tmod p = 0 then 0 else if p = 2 then (if d % 8 = 1 ∨ d % 8 = 7 then 1 else -1) else if sqB d p then 1 else -1
theorem sqB_yes {d : Int} {p x : Nat} (h1 : 1 ≤ x) (h2 : x < p) (h : ((x : Int) * x - d) % p = 0) : sqB d p = true := by
  unfold sqB
  rw [List.any_eq_true]
  refine ⟨x - 1, List.mem_range.2 (by omega), ?_⟩
  rw [show x - 1 + 1 = x by omega]
  exact decide_eq_true h
theorem sqB_no {d : Int} {p : Nat} (h : ∀ x : Nat, 1 ≤ x → x < p → ((x : Int) * x - d) % p ≠ 0) : sqB d p = false := by
  unfold sqB
  rw [List.any_eq_false]
  intro x hx
  have := h (x + 1) (by omega) (by have := List.mem_range.1 hx; omega)
  simpa using this
theorem symV_kr {d : Int} {p : Nat} (hp : Prm p) (h120 : p ≤ 120) : symV d p = kr d p := by
  have h2 := hp.two_le
  have e0 : d.tmod p = 0 ↔ d % p = 0 := by
    constructor
    · intro h; exact Int.emod_eq_zero_of_dvd (Int.dvd_of_tmod_eq_zero h)
    · intro h; exact Int.tmod_eq_zero_of_dvd (Int.dvd_of_emod_eq_zero h)
  unfold symV kr
  by_cases hp2 : p = 2
  · subst hp2
    rw [if_pos rfl, if_pos rfl]
    unfold two
    have e0' : d.tmod (2 : Nat) = 0 ↔ d % 2 = 0 := e0
    by_cases hz : d % 2 = 0
    · rw [if_pos (e0'.2 hz), if_neg (by omega), if_neg (by omega)]
    · rw [if_neg fun h => hz (e0'.1 h)]
      by_cases h17 : d % 8 = 1 ∨ d % 8 = 7
      · rw [if_pos h17, if_pos h17]
      · rw [if_neg h17, if_neg h17, if_pos (by omega)]
  · rw [if_neg hp2, if_neg hp2]
    by_cases hz : d % p = 0
    · rw [if_pos (e0.2 hz), leg_zero hp hp2 (Int.dvd_of_emod_eq_zero hz)]
    · rw [if_neg fun h => hz (e0.1 h)]
      have hA := allB_at sq_all (show p < 121 by omega)
      rw [prm_prmC hp] at hA
      simp only [Bool.not_true, Bool.false_or, Bool.or_eq_true, beq_iff_eq] at hA
      have hA := hA.resolve_left hp2
      have hlt := Int.emod_lt_of_pos d (show (0 : Int) < p by omega)
      have hnn := Int.emod_nonneg d (show (p : Int) ≠ 0 by omega)
      obtain ⟨r, hr⟩ : ∃ r : Nat, (r : Int) = d % p := ⟨(d % p).toNat, by omega⟩
      have hR := allB_at hA (show r < p by omega)
      simp only [Bool.or_eq_true, beq_iff_eq] at hR
      have hR := hR.resolve_left (by omega)
      have hleg : leg d p = leg (r : Int) p := leg_congr hp hp2 (by rw [hr]; exact ⟨d / p, by have := Int.emod_add_mul_ediv d p; omega⟩)
      have ecast : ((r : Int) ^ ((p - 1) / 2)) % p = ((r ^ ((p - 1) / 2) % p : Nat) : Int) := by push_cast; rfl
      rw [hleg]
      unfold leg
      rw [ecast]
      have hiff : sqB d p = sqN p r := by
        rw [Bool.eq_iff_iff]
        have key : ∀ x : Nat, ((x : Int) * x - d) % p = 0 ↔ x * x % p = r := fun x => by
          have e1 : ((x * x % p : Nat) : Int) = ((x : Int) * x) % p := by push_cast; rfl
          constructor
          · intro h
            have := Int.emod_emod_of_dvd
            have h3 : ((x : Int) * x) % p = d % p := Int.emod_eq_emod_iff_emod_sub_eq_zero.2 h
            omega
          · intro h
            exact Int.emod_eq_emod_iff_emod_sub_eq_zero.1 (by rw [← e1, h, hr])
        unfold sqB sqN
        rw [List.any_eq_true, List.any_eq_true]
        constructor
        · rintro ⟨x, hx, h⟩
          exact ⟨x + 1, List.mem_range.2 (by have := List.mem_range.1 hx; omega), beq_iff_eq.2 ((key (x + 1)).1 (of_decide_eq_true h))⟩
        · rintro ⟨x, hx, h⟩
          have h := beq_iff_eq.1 h
          have hx0 : x ≠ 0 := by
            rintro rfl
            simp at h
            omega
          exact ⟨x - 1, List.mem_range.2 (by have := List.mem_range.1 hx; omega), by rw [show x - 1 + 1 = x by omega]; exact decide_eq_true ((key x).2 h)⟩
      rw [hiff]
      split at hR
      · next hs =>
        rw [hs, if_pos rfl, beq_iff_eq.1 hR, if_neg (by omega)]
        rfl
      · next hs =>
        rw [if_neg hs, beq_iff_eq.1 hR, if_pos (by omega)]
set_option maxHeartbeats 4000000 in
theorem symbol_sp (d : Int) (p : Nat) (h1 : -1000000 ≤ d) (h2 : d ≤ 1000000) (hp : 2 ≤ p) (hp2 : p ≤ 1000) : Sp CX 134 [int .i64 d, int .i64 p] (int .i64 (symV d p)) := by
  refine fn_spec (C := CX) ⟨34, [], []⟩ [] tysX_ok mixed Tryz.func134 rfl (by kernel_rfl) Tryz.ntmps134 (by kernel_rfl) rfl ?_
  unfold symV
  by_cases c1 : d.tmod p = 0
  · rw [if_pos c1]
    repeat' ((conv => whnf); first | refine Ja ?_ | refine Je ?_)
    refine ⟨⟨_, _, rfl, rfl, AvLe.int ?_⟩⟩
    rfl
  · rw [if_neg c1]
    by_cases c2 : p = 2
    · subst c2
      rw [if_pos rfl]
      by_cases c3 : d % 8 = 1
      · rw [if_pos (.inl c3)]
        repeat' ((conv => whnf); first | refine Ja ?_ | refine Je ?_ | refine Jf ?_ | refine Jy (mod_sp d 8 (by omega) (by omega) (by omega) (by omega)) ?_)
        refine ⟨⟨_, _, rfl, rfl, AvLe.int ?_⟩⟩
        rfl
      · by_cases c4 : d % 8 = 7
        · rw [if_pos (.inr c4)]
          repeat' ((conv => whnf); first | refine Ja ?_ | refine Je ?_ | refine Jf ?_ | refine Jy (mod_sp d 8 (by omega) (by omega) (by omega) (by omega)) ?_)
          refine ⟨⟨_, _, rfl, rfl, AvLe.int ?_⟩⟩
          rfl
        · rw [if_neg (by omega)]
          repeat' ((conv => whnf); first | refine Ja ?_ | refine Je ?_ | refine Jf ?_ | refine Jy (mod_sp d 8 (by omega) (by omega) (by omega) (by omega)) ?_)
          refine ⟨⟨_, _, rfl, rfl, AvLe.int ?_⟩⟩
          rfl
    · rw [if_neg c2]
      repeat' ((conv => whnf); first | refine Ja ?_ | refine Jf ?_)
      refine ⟨⟨Nat, fun x => ⟨[(0, int .i64 d), (1, int .i64 p), (6, int .i64 x)], [], 0⟩, fun x => 1 ≤ x ∧ x ≤ p ∧ Hid (∀ y : Nat, 1 ≤ y → y < x → ((y : Int) * y - d) % p ≠ 0), fun x => p - x, ⟨1, [], ⟨Nat.le_refl _, by omega, fun y a b => by omega⟩, Ent.g⟩, ?_⟩⟩
      rintro x ⟨k1, k2, k3⟩
      have hsq : (x : Int) * x ≤ 1000 * 1000 := Int.mul_le_mul (by omega) (by omega) (by omega) (by omega)
      have hs0 : 0 ≤ (x : Int) * x := Int.mul_nonneg (by omega) (by omega)
      by_cases hx : x < p
      · by_cases hz : ((x : Int) * x - d) % p = 0
        · have hy := sqB_yes k1 hx hz
          repeat' ((conv => whnf); first | refine Jb ?_ | refine Je ?_ | refine Jy (mod_sp ((x : Int) * x - d) p (by omega) (by omega) (by omega) (by omega)) ?_)
          refine ⟨⟨_, _, rfl, rfl, AvLe.int ?_⟩⟩
          rw [if_pos hy]
        · repeat' ((conv => whnf); first | refine Jb ?_ | refine Je ?_ | refine Jf ?_ | refine Jy (mod_sp ((x : Int) * x - d) p (by omega) (by omega) (by omega) (by omega)) ?_)
          exact ⟨x + 1, [], ⟨by omega, by omega, fun y a b => by
            by_cases hd : y = x
            · subst hd; exact hz
            · exact k3.out y a (by omega)⟩, by show p - (x + 1) < p - x; omega, Ent.g⟩
      · obtain rfl : x = p := by omega
        have hn := sqB_no k3.out
        repeat' ((conv => whnf); first | refine Jf ?_)
        refine ⟨⟨_, _, rfl, rfl, AvLe.int ?_⟩⟩
        rw [if_neg (by rw [hn]; simp)]
end Go.Proofs.YtdjfndfkjbjcpaaGreatDoor

/- States in letters: Kronecker's symbol of the reference; the formulas. -/
namespace Go.Proofs.YtdjfndfkjbjcpaaGreatDoor
open Go Go.RowKit Go.VG HP
theorem jac_out {d : Int} {a p : Nat} (hp : Prm p) (h120 : p ≤ 120) (ha : 0 < a) (hd : a % p = 0) : jac d a = symV d p * jac d (a / p) := by
  have e : a = p * (a / p) := by have := Nat.div_add_mod a p; omega
  have hpos : 0 < a / p := Nat.div_pos (Nat.le_of_dvd ha (Nat.dvd_of_mod_eq_zero hd)) hp.pos
  rw [symV_kr hp h120]
  conv => lhs; rw [e]
  exact ext_prime_mul _ hp _ hpos
set_option maxHeartbeats 4000000 in
theorem kron28_sp (d : Int) (A : Nat) (h1 : -1000000 ≤ d) (h2 : d ≤ 1000000) (hA : 1 ≤ A) (hA2 : A ≤ 120) : Sp CX 98 [int .i64 d, int .i64 A] (int .i64 (jac d A)) := by
  refine fn_sp (C := CX) [] [] tysX_ok mixed Tryz.func98 rfl (by kernel_rfl) Tryz.ntmps98 rfl rfl ?_
  repeat' ((conv => whnf); first | refine Ja ?_)
  refine ⟨⟨Nat × Int × Nat, fun (a, o, p) => ⟨[(0, int .i64 d), (1, int .i64 a), (5, int .i64 o), (6, int .i64 p)], [], 0⟩, fun (a, o, p) => 0 < a ∧ a ≤ A ∧ 2 ≤ p ∧ p ≤ A + 2 ∧ Rough p a ∧ Tri o ∧ Hid (jac d A = o * jac d a), fun (_, _, p) => A + 3 - p, ⟨(A, 1, 2), [], ⟨hA, Nat.le_refl _, Nat.le_refl _, by omega, rough_two A, .inr (.inl rfl), (Int.one_mul _).symm⟩, Ent.g⟩, ?_⟩⟩
  rintro ⟨a, o, p⟩ ⟨k1, k2, k3, k4, k5, k6, k7⟩
  by_cases ha : 1 < a
  · have hle : p ≤ a := rough_le (by omega) k5
    repeat' ((conv => whnf); first | refine Je ?_)
    refine ⟨⟨Nat × Int, fun (b, o) => ⟨[(0, int .i64 d), (1, int .i64 b), (5, int .i64 o), (6, int .i64 p)], [], 0⟩, fun (b, o) => 0 < b ∧ b ≤ A ∧ Rough p b ∧ Tri o ∧ Hid (jac d A = o * jac d b), fun (b, _) => b, ⟨(a, o), [], ⟨k1, k2, k5, k6, k7⟩, Ent.g⟩, ?_⟩⟩
    rintro ⟨b, o2⟩ ⟨m1, m2, m3, m4, m5⟩
    have em : (b : Int).tmod p = ((b % p : Nat) : Int) := (Int.ofNat_tmod b p).symm
    have eq : (b : Int).tdiv p = ((b / p : Nat) : Int) := (Int.ofNat_tdiv b p).symm
    by_cases hd : b % p = 0
    · have hpr := (facs_round k3 m1 m3 (Nat.dvd_of_mod_eq_zero hd)).2
      have hj := jac_out (d := d) hpr (by omega) m1 hd
      have hlb : p ≤ b := Nat.le_of_dvd m1 (Nat.dvd_of_mod_eq_zero hd)
      have hdv : 0 < b / p := Nat.div_pos hlb (by omega)
      have hlt : b / p < b := Nat.div_lt_self m1 (by omega)
      have ht : Tri (o2 * symV d p) := m4.mul (by rw [symV_kr hpr (by omega)]; exact kr_tri hpr d)
      have hi : -1 ≤ o2 * symV d p ∧ o2 * symV d p ≤ 1 := by rcases ht with h | h | h <;> omega
      have hr : Rough p (b / p) := rough_dvd m3 (Nat.div_dvd_of_dvd (Nat.dvd_of_mod_eq_zero hd))
      have hm : jac d A = o2 * symV d p * jac d (b / p) := by rw [m5.out, hj, Int.mul_assoc]
      have HM := Lib.hid hm
      clear hm hj ht m5 k7
      repeat' ((conv => whnf); first | refine Ja ?_ | refine Jb ?_ | refine Je ?_ | refine Jy (symbol_sp d p (by omega) (by omega) (by omega) (by omega)) ?_)
      exact ⟨(b / p, o2 * symV d p), [], ⟨hdv, by omega, hr, by rcases hi with ⟨x, y⟩; unfold Tri; omega, HM.out⟩, hlt, Ent.g⟩
    · have hr : Rough (p + 1) b := rough_next m3 fun h => hd (Nat.mod_eq_zero_of_dvd h)
      repeat' ((conv => whnf); first | refine Ja ?_ | refine Jb ?_ | refine Jf ?_)
      exact ⟨(b, o2, p + 1), [], ⟨m1, m2, by omega, by omega, hr, m4, m5⟩, by show A + 3 - (p + 1) < A + 3 - p; omega, Ent.g⟩
  · obtain rfl : a = 1 := by omega
    have e := k7.out
    rw [jac_one, Int.mul_one] at e
    repeat' ((conv => whnf); first | refine Jf ?_)
    refine ⟨⟨_, _, rfl, rfl, AvLe.int ?_⟩⟩
    exact e.symm
theorem psi_small {n : Nat} (h1 : 1 ≤ n) (h2 : n ≤ 120) : 1 ≤ psi n ∧ psi n ≤ 400 := by
  have h : allB 121 (fun n => decide (n = 0) || (decide (1 ≤ prodC psiF n) && decide (prodC psiF n ≤ 400))) = true := by decide +kernel
  have := allB_at h (show n < 121 by omega)
  simp only [Bool.or_eq_true, Bool.and_eq_true, decide_eq_true_eq] at this
  rw [psi_C h1 h2]
  exact this.resolve_left (by omega)
end Go.Proofs.YtdjfndfkjbjcpaaGreatDoor

/- States in letters: the program's dimension formula; beta; the sums of the reference. -/
namespace Go.Proofs.YtdjfndfkjbjcpaaGreatDoor
open Go Go.RowKit Go.VG HP
def specA (L K D : Int) : AV := .v (.agg [ix L, ix K, ix D])
end Go.Proofs.YtdjfndfkjbjcpaaGreatDoor

