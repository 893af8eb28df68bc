/- Own texts joined: VgU, VgV, VgX. -/
import Derived.Test.YtjijdabbhfefjaaGreatDoorSpA
import Derived.Test.YtjijdabbhfefjaaGreatDoorPkNumW
/- States in letters: the small functions of the dimension formulas. -/
namespace Go.Proofs.YtjijdabbhfefjaaGreatDoor
open Go Go.RowKit Go.VG HP
theorem exp_sp (N P : Nat) (hN0 : 1 ≤ N) (hN : N ≤ 2147483647) (hP : 2 ≤ P) (hP2 : P ≤ 2147483647) : Sp CX 158 [int .i64 N, int .i64 P] (int .i64 (mlt P N : Nat)) := by
  refine fn_spec (C := CX) ⟨16, [], []⟩ [] tysX_ok mixed Tryz.func158 rfl (by kernel_rfl) Tryz.ntmps158 (by kernel_rfl) rfl ?_
  repeat' ((conv => whnf); first | refine Ja ?_ | refine Jb ?_ | refine Jc ?_ | refine Jd ?_ | refine Je ?_ | refine Jf ?_ | refine Jg rfl ?_ | refine Jh rfl ?_ | refine Ji ?_ | refine Jj ?_ | refine Jk rfl ?_ | refine Jl ?_ | refine Jm ?_ | refine Jn rfl ?_ | refine Jo ?_ | refine Jp ?_ | refine Jq rfl ?_ | refine Jr ?_ | refine Js ?_ | refine Jt rfl ?_ | refine Ju ?_ | refine Jv ?_ | refine Jw ?_ | refine Jx rfl ?_)
  refine ⟨⟨Nat × Nat, fun (m, j) => ⟨[(0, int .i64 m), (1, int .i64 P), (5, int .i64 j)], [], 0⟩, fun (m, j) => 0 < m ∧ m ≤ N ∧ j + m ≤ N + 1 ∧ mlt P N = j + mlt P m, fun (m, _) => m, ⟨(N, 0), [], ⟨hN0, Nat.le_refl _, by omega, (Nat.zero_add _).symm⟩, Ent.g⟩, ?_⟩⟩
  rintro ⟨m, j⟩ ⟨k1, k2, k3, k4⟩
  have e1 : (m : Int).tmod P = ((m % P : Nat) : Int) := (Int.ofNat_tmod m P).symm
  have e2 : (m : Int).tdiv P = ((m / P : Nat) : Int) := (Int.ofNat_tdiv m P).symm
  by_cases hd : m % P = 0
  · have hle : P ≤ m := Nat.le_of_dvd k1 (Nat.dvd_of_mod_eq_zero hd)
    have hdv : 0 < m / P := Nat.div_pos hle (by omega)
    have hlt : m / P < m := Nat.div_lt_self k1 (by omega)
    rw [mlt_yes hP k1 hd] at k4
    repeat' ((conv => whnf); first | refine Ja ?_ | refine Jb ?_ | refine Jc ?_ | refine Jd ?_ | refine Je ?_ | refine Jf ?_ | refine Jg rfl ?_ | refine Jh rfl ?_ | refine Ji ?_ | refine Jj ?_ | refine Jk rfl ?_ | refine Jl ?_ | refine Jm ?_ | refine Jn rfl ?_ | refine Jo ?_ | refine Jp ?_ | refine Jq rfl ?_ | refine Jr ?_ | refine Js ?_ | refine Jt rfl ?_ | refine Ju ?_ | refine Jv ?_ | refine Jw ?_ | refine Jx rfl ?_)
    exact ⟨(m / P, j + 1), [], ⟨hdv, by omega, by omega, by omega⟩, hlt, Ent.g⟩
  · rw [mlt_no hd, Nat.add_zero] at k4
    repeat' ((conv => whnf); first | refine Ja ?_ | refine Jb ?_ | refine Jc ?_ | refine Jd ?_ | refine Je ?_ | refine Jf ?_ | refine Jg rfl ?_ | refine Jh rfl ?_ | refine Ji ?_ | refine Jj ?_ | refine Jk rfl ?_ | refine Jl ?_ | refine Jm ?_ | refine Jn rfl ?_ | refine Jo ?_ | refine Jp ?_ | refine Jq rfl ?_ | refine Jr ?_ | refine Js ?_ | refine Jt rfl ?_ | refine Ju ?_ | refine Jv ?_ | refine Jw ?_ | refine Jx rfl ?_)
    refine ⟨⟨_, _, rfl, rfl, AvLe.int ?_⟩⟩
    omega
theorem pow_part {P K j : Nat} (hP : 1 ≤ P) (hj : j ≤ K) (hb : P ^ K ≤ 1000000) : 1 ≤ P ^ j ∧ P ^ j ≤ 1000000 :=
  ⟨Nat.pow_pos hP, Nat.le_trans (Nat.pow_le_pow_right hP hj) hb⟩
theorem pow_sp (P K r : Nat) (hr : Hid (r = P ^ K)) (hP : 1 ≤ P) (_hP2 : P ≤ 1000000) (hK : K ≤ 1000000) (hb : r ≤ 1000000) : Sp CX 159 [int .i64 P, int .i64 K] (int .i64 r) := by
  have hr := hr.out
  subst hr
  refine fn_spec (C := CX) ⟨14, [], []⟩ [] tysX_ok mixed Tryz.func159 rfl (by kernel_rfl) Tryz.ntmps159 (by kernel_rfl) rfl ?_
  repeat' ((conv => whnf); first | refine Ja ?_ | refine Jb ?_ | refine Jc ?_ | refine Jd ?_ | refine Je ?_ | refine Jf ?_ | refine Jg rfl ?_ | refine Jh rfl ?_ | refine Ji ?_ | refine Jj ?_ | refine Jk rfl ?_ | refine Jl ?_ | refine Jm ?_ | refine Jn rfl ?_ | refine Jo ?_ | refine Jp ?_ | refine Jq rfl ?_ | refine Jr ?_ | refine Js ?_ | refine Jt rfl ?_ | refine Ju ?_ | refine Jv ?_ | refine Jw ?_ | refine Jx rfl ?_)
  refine ⟨⟨Nat × Nat, fun (i, q) => ⟨[(0, int .i64 P), (5, int .i64 q), (6, int .i64 K), (7, int .i64 i)], [], 0⟩, fun (i, q) => i ≤ K ∧ q = P ^ i, fun (i, _) => K - i, ⟨(0, 1), [], ⟨Nat.zero_le _, rfl⟩, Ent.g⟩, ?_⟩⟩
  rintro ⟨i, q⟩ ⟨k1, k2⟩
  by_cases hd : i < K
  · have h1 := pow_part hP (Nat.le_of_lt hd) hb
    have h2 := pow_part hP (show i + 1 ≤ K from hd) hb
    rw [Nat.pow_succ, ← k2] at h2
    rw [← k2] at h1
    have hq1 : ((q * P : Nat) : Int) ≤ 1000000 := by omega
    rw [Int.natCast_mul] at hq1
    have hq0 : 0 ≤ ((q * P : Nat) : Int) := Int.natCast_nonneg _
    rw [Int.natCast_mul] at hq0
    repeat' ((conv => whnf); first | refine Ja ?_ | refine Jb ?_ | refine Jc ?_ | refine Jd ?_ | refine Je ?_ | refine Jf ?_ | refine Jg rfl ?_ | refine Jh rfl ?_ | refine Ji ?_ | refine Jj ?_ | refine Jk rfl ?_ | refine Jl ?_ | refine Jm ?_ | refine Jn rfl ?_ | refine Jo ?_ | refine Jp ?_ | refine Jq rfl ?_ | refine Jr ?_ | refine Js ?_ | refine Jt rfl ?_ | refine Ju ?_ | refine Jv ?_ | refine Jw ?_ | refine Jx rfl ?_)
    exact ⟨(i + 1, q * P), [], ⟨hd, by rw [k2, Nat.pow_succ]⟩, by show K - (i + 1) < K - i; omega, Ent.g⟩
  · obtain rfl : i = K := by omega
    repeat' ((conv => whnf); first | refine Ja ?_ | refine Jb ?_ | refine Jc ?_ | refine Jd ?_ | refine Je ?_ | refine Jf ?_ | refine Jg rfl ?_ | refine Jh rfl ?_ | refine Ji ?_ | refine Jj ?_ | refine Jk rfl ?_ | refine Jl ?_ | refine Jm ?_ | refine Jn rfl ?_ | refine Jo ?_ | refine Jp ?_ | refine Jq rfl ?_ | refine Jr ?_ | refine Js ?_ | refine Jt rfl ?_ | refine Ju ?_ | refine Jv ?_ | refine Jw ?_ | refine Jx rfl ?_)
    refine ⟨⟨_, _, rfl, rfl, AvLe.int ?_⟩⟩
    rw [k2]
def spA (n f k a b : Int) : AV := .v (.agg [ix n, ix f, ix k, ix a, ix b])
theorem exc_sp (n f k a b : Int) : Sp CX 115 [spA n f k a b] (int .i64 (if k = 2 ∧ f = 1 then 1 else 0)) := by
  refine fn_spec (C := CX) ⟨11, [], []⟩ [] tysX_ok mixed Tryz.func115 rfl (by kernel_rfl) Tryz.ntmps115 (by kernel_rfl) rfl ?_
  by_cases h1 : k = 2
  · by_cases h2 : f = 1
    · repeat' ((conv => whnf); first | refine Ja ?_ | refine Jb ?_ | refine Jc ?_ | refine Jd ?_ | refine Je ?_ | refine Jf ?_ | refine Jg rfl ?_ | refine Jh rfl ?_ | refine Ji ?_ | refine Jj ?_ | refine Jk rfl ?_ | refine Jl ?_ | refine Jm ?_ | refine Jn rfl ?_ | refine Jo ?_ | refine Jp ?_ | refine Jq rfl ?_ | refine Jr ?_ | refine Js ?_ | refine Jt rfl ?_ | refine Ju ?_ | refine Jv ?_ | refine Jw ?_ | refine Jx rfl ?_)
      refine ⟨⟨_, _, rfl, rfl, AvLe.int ?_⟩⟩
      rw [if_pos ⟨h1, h2⟩]
    · repeat' ((conv => whnf); first | refine Ja ?_ | refine Jb ?_ | refine Jc ?_ | refine Jd ?_ | refine Je ?_ | refine Jf ?_ | refine Jg rfl ?_ | refine Jh rfl ?_ | refine Ji ?_ | refine Jj ?_ | refine Jk rfl ?_ | refine Jl ?_ | refine Jm ?_ | refine Jn rfl ?_ | refine Jo ?_ | refine Jp ?_ | refine Jq rfl ?_ | refine Jr ?_ | refine Js ?_ | refine Jt rfl ?_ | refine Ju ?_ | refine Jv ?_ | refine Jw ?_ | refine Jx rfl ?_)
      refine ⟨⟨_, _, rfl, rfl, AvLe.int ?_⟩⟩
      rw [if_neg fun h => h2 h.2]
  · repeat' ((conv => whnf); first | refine Ja ?_ | refine Jb ?_ | refine Jc ?_ | refine Jd ?_ | refine Je ?_ | refine Jf ?_ | refine Jg rfl ?_ | refine Jh rfl ?_ | refine Ji ?_ | refine Jj ?_ | refine Jk rfl ?_ | refine Jl ?_ | refine Jm ?_ | refine Jn rfl ?_ | refine Jo ?_ | refine Jp ?_ | refine Jq rfl ?_ | refine Jr ?_ | refine Js ?_ | refine Jt rfl ?_ | refine Ju ?_ | refine Jv ?_ | refine Jw ?_ | refine Jx rfl ?_)
    refine ⟨⟨_, _, rfl, rfl, AvLe.int ?_⟩⟩
    rw [if_neg fun h => h1 h.1]
set_option maxRecDepth 20000 in
set_option maxHeartbeats 4000000 in
theorem lam_sp (n f : Nat) (k a b : Int) (hn0 : 1 ≤ n) (hn : n ≤ 1000) (hf0 : 1 ≤ f) (hf : f ≤ 1000) (hfn : f ∣ n) : Sp CX 114 [spA n f k a b] (int .i64 (lam f n)) := by
  obtain ⟨Z, len, hZ, hlen⟩ := zOf (facs n) (0, 0)
  have hll : len ≤ 1000 := by have := facs_len (n := n) (by omega); omega
  have hnn : (n : Int) * n ≤ 1000000 := Int.mul_le_mul (c := 1000) (d := 1000) (by omega) (by omega) (by omega) (by omega)
  refine fn_spec (C := CX) ⟨71, [], []⟩ [] tysX_ok mixed Tryz.func114 rfl (by kernel_rfl) Tryz.ntmps114 (by kernel_rfl) rfl ?_
  repeat' ((conv => whnf); first | refine Ja ?_ | refine Jb ?_ | refine Jc ?_ | refine Jd ?_ | refine Je ?_ | refine Jf ?_ | refine Jg rfl ?_ | refine Jh rfl ?_ | refine Ji ?_ | refine Jj ?_ | refine Jk rfl ?_ | refine Jl ?_ | refine Jm ?_ | refine Jn rfl ?_ | refine Jo ?_ | refine Jp ?_ | refine Jq rfl ?_ | refine Jr ?_ | refine Js ?_ | refine Jt rfl ?_ | refine Ju ?_ | refine Jv ?_ | refine Jw ?_ | refine Jx rfl ?_ | refine Jy (factor_sp n Z len (fun i p e => hZ i (p, e)) hlen (by omega) (by omega)) ?_)
  refine ⟨⟨Nat, fun i => ⟨[(1, .v (.c (.loc 0 0))), (3, int .i64 (prodL (lamF f) ((facs n).take i))), (17, .v (.c (.sl 2 (Nat × Nat) ppL Z len))), (18, int .i64 len), (19, int .i64 i)], [(0, .st [ix n, ix f, ix k, ix a, ix b])], 1⟩, fun i => i ≤ len, fun i => len - i, ⟨0, [], Nat.zero_le _, Ent.g⟩, ?_⟩⟩
  intro i hi
  by_cases hd : i < len
  · have hfi : (facs n)[i]? = some ((Z i).1, (Z i).2) := by
      have h := List.getElem?_eq_getElem (l := facs n) (i := i) (by omega)
      rw [h, hZ i _ h]
    obtain ⟨m1, m2, m3, m4, m5, m6, m7⟩ := facs_bounds (by omega) (List.mem_of_getElem? hfi)
    have hbd := lam_pre f (n := n) (by omega) (i + 1)
    have hst := prodL_next (lamF f) hfi
    rw [hst] at hbd
    have hb0 := lam_pre f (n := n) (by omega) i
    have hpw : ∀ q, q ≤ (Z i).2 → (Z i).1 ^ q ≤ 1000000 := fun q hq => by
      have := Nat.pow_le_pow_right (show 0 < (Z i).1 by omega) hq
      omega
    have e1 : ((Z i).2 : Int).tdiv 2 = (((Z i).2 / 2 : Nat) : Int) := (Int.ofNat_tdiv _ 2).symm
    have e2 : ((Z i).2 : Int).tmod 2 = (((Z i).2 % 2 : Nat) : Int) := (Int.ofNat_tmod _ 2).symm
    have e3 : (((Z i).2 : Int) - 1).tdiv 2 = ((((Z i).2 - 1) / 2 : Nat) : Int) := by rw [show ((Z i).2 : Int) - 1 = (((Z i).2 - 1 : Nat) : Int) by omega]; exact (Int.ofNat_tdiv _ 2).symm
    have hcle : mlt (Z i).1 f ≤ (Z i).2 := by
      apply Nat.le_of_not_lt
      intro h
      have h1 := (facs_iff (by omega) _ _).1 (List.mem_of_getElem? hfi)
      exact h1.2.2.2 (Nat.dvd_trans (Nat.pow_dvd_pow _ h) (Nat.dvd_trans (mlt_dvd (Z i).1 f) hfn))
    by_cases c1 : (Z i).2 < 2 * mlt (Z i).1 f
    · have p1 := hpw ((Z i).2 - mlt (Z i).1 f) (by omega)
      obtain ⟨r, hr⟩ : ∃ r, r = (Z i).1 ^ ((Z i).2 - mlt (Z i).1 f) := ⟨_, rfl⟩
      have el : lamF f (Z i).1 (Z i).2 = 2 * (r : Int) := by unfold lamF; rw [if_pos c1, Int.natCast_mul, hr]; rfl
      rw [el] at hbd hst
      rw [← hr] at p1
      have HR := Lib.hid hr
      clear hr hpw el m6 m7
      repeat' ((conv => whnf); first | refine Ja ?_ | refine Jb ?_ | refine Jc ?_ | refine Jd ?_ | refine Je ?_ | refine Jf ?_ | refine Jg rfl ?_ | refine Jh rfl ?_ | refine Ji ?_ | refine Jj ?_ | refine Jk rfl ?_ | refine Jl ?_ | refine Jm ?_ | refine Jn rfl ?_ | refine Jo ?_ | refine Jp ?_ | refine Jq rfl ?_ | refine Jr ?_ | refine Js ?_ | refine Jt rfl ?_ | refine Ju ?_ | refine Jv ?_ | refine Jw ?_ | refine Jx rfl ?_ | refine Jy (exp_sp f (Z i).1 (by omega) (by omega) (by omega) (by omega)) ?_ | refine Sp.call (pow_sp (Z i).1 ((Z i).2 - mlt (Z i).1 f) r HR (by omega) (by omega) (by omega) (by assumption)) (.cons (.refl _) (.cons (AvLe.int (by omega)) .nil)) rfl (AvLe.refl _) ?_)
      exact ⟨i + 1, [], hd, by show len - (i + 1) < len - i; omega, Ent.g⟩
    · by_cases c2 : (Z i).2 % 2 = 0
      · have p1 := hpw ((Z i).2 / 2) (by omega)
        have p2 := hpw ((Z i).2 / 2 - 1) (by omega)
        have hpe : 1 ≤ (Z i).2 / 2 := by omega
        obtain ⟨r, hr⟩ : ∃ r, r = (Z i).1 ^ ((Z i).2 / 2) := ⟨_, rfl⟩
        obtain ⟨s, hs⟩ : ∃ s, s = (Z i).1 ^ ((Z i).2 / 2 - 1) := ⟨_, rfl⟩
        have el : lamF f (Z i).1 (Z i).2 = (r : Int) + (s : Int) := by unfold lamF; rw [if_neg c1, if_pos c2, Int.natCast_add, hr, hs]
        rw [el] at hbd hst
        rw [← hr] at p1
        rw [← hs] at p2
        have HR := Lib.hid hr
        have HS := Lib.hid hs
        clear hr hs hpw el m6 m7
        repeat' ((conv => whnf); first | refine Ja ?_ | refine Jb ?_ | refine Jc ?_ | refine Jd ?_ | refine Je ?_ | refine Jf ?_ | refine Jg rfl ?_ | refine Jh rfl ?_ | refine Ji ?_ | refine Jj ?_ | refine Jk rfl ?_ | refine Jl ?_ | refine Jm ?_ | refine Jn rfl ?_ | refine Jo ?_ | refine Jp ?_ | refine Jq rfl ?_ | refine Jr ?_ | refine Js ?_ | refine Jt rfl ?_ | refine Ju ?_ | refine Jv ?_ | refine Jw ?_ | refine Jx rfl ?_ | refine Jy (exp_sp f (Z i).1 (by omega) (by omega) (by omega) (by omega)) ?_ | refine Sp.call (pow_sp (Z i).1 ((Z i).2 / 2) r HR (by omega) (by omega) (by omega) (by assumption)) (.cons (.refl _) (.cons (AvLe.int (by first | assumption | omega)) .nil)) rfl (AvLe.refl _) ?_ | refine Sp.call (pow_sp (Z i).1 ((Z i).2 / 2 - 1) s HS (by omega) (by omega) (by omega) (by assumption)) (.cons (.refl _) (.cons (AvLe.int (by omega)) .nil)) rfl (AvLe.refl _) ?_)
        exact ⟨i + 1, [], hd, by show len - (i + 1) < len - i; omega, Ent.g⟩
      · have p1 := hpw (((Z i).2 - 1) / 2) (by omega)
        obtain ⟨r, hr⟩ : ∃ r, r = (Z i).1 ^ (((Z i).2 - 1) / 2) := ⟨_, rfl⟩
        have el : lamF f (Z i).1 (Z i).2 = 2 * (r : Int) := by unfold lamF; rw [if_neg c1, if_neg c2, Int.natCast_mul, hr]; rfl
        rw [el] at hbd hst
        rw [← hr] at p1
        have HR := Lib.hid hr
        clear hr hpw el m6 m7
        repeat' ((conv => whnf); first | refine Ja ?_ | refine Jb ?_ | refine Jc ?_ | refine Jd ?_ | refine Je ?_ | refine Jf ?_ | refine Jg rfl ?_ | refine Jh rfl ?_ | refine Ji ?_ | refine Jj ?_ | refine Jk rfl ?_ | refine Jl ?_ | refine Jm ?_ | refine Jn rfl ?_ | refine Jo ?_ | refine Jp ?_ | refine Jq rfl ?_ | refine Jr ?_ | refine Js ?_ | refine Jt rfl ?_ | refine Ju ?_ | refine Jv ?_ | refine Jw ?_ | refine Jx rfl ?_ | refine Jy (exp_sp f (Z i).1 (by omega) (by omega) (by omega) (by omega)) ?_ | refine Sp.call (pow_sp (Z i).1 (((Z i).2 - 1) / 2) r HR (by omega) (by omega) (by omega) (by assumption)) (.cons (.refl _) (.cons (AvLe.int (by first | assumption | omega)) .nil)) rfl (AvLe.refl _) ?_)
        exact ⟨i + 1, [], hd, by show len - (i + 1) < len - i; omega, Ent.g⟩
  · obtain rfl : i = len := by omega
    repeat' ((conv => whnf); first | refine Ja ?_ | refine Jb ?_ | refine Jc ?_ | refine Jd ?_ | refine Je ?_ | refine Jf ?_ | refine Jg rfl ?_ | refine Jh rfl ?_ | refine Ji ?_ | refine Jj ?_ | refine Jk rfl ?_ | refine Jl ?_ | refine Jm ?_ | refine Jn rfl ?_ | refine Jo ?_ | refine Jp ?_ | refine Jq rfl ?_ | refine Jr ?_ | refine Js ?_ | refine Jt rfl ?_ | refine Ju ?_ | refine Jv ?_ | refine Jw ?_ | refine Jx rfl ?_)
    refine ⟨⟨_, _, rfl, rfl, AvLe.int ?_⟩⟩
    rw [hlen, List.take_length]
    rfl
end Go.Proofs.YtjijdabbhfefjaaGreatDoor

/- States in letters: residues, greatest common divisors, Psi and lambda of the reference, the cusp forms' formula. -/
namespace Go.Proofs.YtjijdabbhfefjaaGreatDoor
open Go Go.RowKit Go.VG HP
theorem mod_sp (a m : Int) (_ha : -4611686018427387904 ≤ a) (_ha2 : a ≤ 4611686018427387904) (hm : 0 < m) (hm2 : m ≤ 2147483648) : Sp CX 90 [int .i64 a, int .i64 m] (int .i64 (a % m)) := by
  refine fn_spec (C := CX) ⟨15, [], []⟩ [] tysX_ok mixed Tryz.func90 rfl (by kernel_rfl) Tryz.ntmps90 (by kernel_rfl) rfl ?_
  have h1 := Int.tmod_eq_emod (a := a) (b := m)
  have h2 := Int.emod_nonneg a (show m ≠ 0 by omega)
  have h3 := Int.emod_lt_of_pos a hm
  have h4 : m.natAbs = m := by omega
  have h5 : a.tmod m = a % m ∨ a.tmod m = a % m - m := by split at h1 <;> omega
  clear h1 h4
  by_cases hc : a.tmod m < 0
  · repeat' ((conv => whnf); first | refine Ja ?_ | refine Jb ?_ | refine Jc ?_ | refine Jd ?_ | refine Je ?_ | refine Jf ?_ | refine Jg rfl ?_ | refine Jh rfl ?_ | refine Ji ?_ | refine Jj ?_ | refine Jk rfl ?_ | refine Jl ?_ | refine Jm ?_ | refine Jn rfl ?_ | refine Jo ?_ | refine Jp ?_ | refine Jq rfl ?_ | refine Jr ?_ | refine Js ?_ | refine Jt rfl ?_ | refine Ju ?_ | refine Jv ?_ | refine Jw ?_ | refine Jx rfl ?_)
    refine ⟨⟨_, _, rfl, rfl, AvLe.int ?_⟩⟩
    omega
  · repeat' ((conv => whnf); first | refine Ja ?_ | refine Jb ?_ | refine Jc ?_ | refine Jd ?_ | refine Je ?_ | refine Jf ?_ | refine Jg rfl ?_ | refine Jh rfl ?_ | refine Ji ?_ | refine Jj ?_ | refine Jk rfl ?_ | refine Jl ?_ | refine Jm ?_ | refine Jn rfl ?_ | refine Jo ?_ | refine Jp ?_ | refine Jq rfl ?_ | refine Jr ?_ | refine Js ?_ | refine Jt rfl ?_ | refine Ju ?_ | refine Jv ?_ | refine Jw ?_ | refine Jx rfl ?_)
    refine ⟨⟨_, _, rfl, rfl, AvLe.int ?_⟩⟩
    omega
set_option maxHeartbeats 400000 in
theorem gcd18_any (a b : Int) (w : World) (ha1 : -9223372036854775807 ≤ a) (ha2 : a ≤ 9223372036854775807) (hb1 : -9223372036854775807 ≤ b) (hb2 : b ≤ 9223372036854775807) :
    Calls Tryz.prog 26 #[.int .i64 a, .int .i64 b] w fun e w' => e = .returned (.int .i64 (gcdW a b)) ∧ ∃ m, w' = w.drewN m := by
  go_enter Tryz.func26, Tryz.ntmps26
  go_wp2
  go_loopw [0, 1] (fun x y wr => ∃ (a' b' : Int) (m : Nat), x = .int .i64 a' ∧ y = .int .i64 b' ∧ -9223372036854775807 ≤ a' ∧ a' ≤ 9223372036854775807 ∧ -9223372036854775807 ≤ b' ∧ b' ≤ 9223372036854775807 ∧ Hid (Int.gcd a' b' = Int.gcd a b) ∧ wr = w.drewN m) (fun _ y _ => (intOf y).natAbs)
  case atStart => exact ⟨a, b, 0, rfl, rfl, ha1, ha2, hb1, hb2, rfl, rfl⟩
  case round =>
    obtain ⟨a', b', m, rfl, rfl, h1, h2, h3, h4, hg, rfl⟩ := hrel
    by_cases hb : b' = 0
    · obtain rfl := hb
      have e := gcdW_of hg (by omega) h2
      have E := Lib.hid e
      clear e
      by_cases hn : a' < 0
      · go_wp2
        go_ret
        exact ⟨ret_int (by rw [E.out]; omega), m, rfl⟩
      · go_wp2
        go_ret
        exact ⟨ret_int (by rw [E.out]; omega), m, rfl⟩
    · have ht := tmod_abs_lt a' hb
      go_wp2
      go_quiet (fail)
      go_wp2
      go_roundw
      case rel =>
        exact ⟨b', a'.tmod b', m + nq, rfl, rfl, h3, h4, by omega, by omega, (gcd_tmod a' b').trans hg, by simp⟩
      case measure => simpa [intOf] using ht
theorem gcdW_eq {a b : Int} (h : -9223372036854775807 ≤ a) (h2 : a ≤ 9223372036854775807) (k : -9223372036854775807 ≤ b) (k2 : b ≤ 9223372036854775807) : gcdW a b = (Int.gcd a b : Nat) := by
  unfold gcdW
  rw [if_neg]
  intro hg
  by_cases ha : a = 0
  · subst ha
    rw [Int.gcd_zero_left] at hg
    omega
  · have := Int.gcd_le_natAbs_left (b := b) ha
    omega
theorem gcd18_sp (a b : Int) (ha1 : -9223372036854775807 ≤ a) (ha2 : a ≤ 9223372036854775807) (hb1 : -9223372036854775807 ≤ b) (hb2 : b ≤ 9223372036854775807) : Sp CX 26 [int .i64 a, int .i64 b] (int .i64 (Int.gcd a b : Nat)) :=
  .of_val (vs0 := [.int .i64 a, .int .i64 b]) (callOk Tryz.func26 (by kernel_rfl) (by kernel_rfl)) rfl (fun _ _ _ h => argsX h) (fun _ _ => ⟨rfl, rfl⟩) fun w _ => (gcd18_any a b w ha1 ha2 hb1 hb2).mono fun _ _ ⟨h, m, e⟩ => ⟨by rw [h, gcdW_eq ha1 ha2 hb1 hb2], e ▸ drew_below w m⟩
end Go.Proofs.YtjijdabbhfefjaaGreatDoor

/- States in letters: square-free numbers, symbols, the formula. -/
namespace Go.Proofs.YtjijdabbhfefjaaGreatDoor
open Go Go.RowKit Go.VG HP
def freeB (m : Nat) : Bool := (List.range (m + 1)).all fun d => !(decide (2 ≤ d) && decide (d * d ≤ m) && m % (d * d) == 0)
theorem tdiv_bd {d k B : Int} (h1 : -B ≤ d) (h2 : d ≤ B) : -B ≤ d.tdiv k ∧ d.tdiv k ≤ B := by
  have h := Int.natAbs_tdiv d k
  have h3 := Nat.div_le_self d.natAbs k.natAbs
  change (d.tdiv k).natAbs = d.natAbs / k.natAbs at h
  generalize d.tdiv k = x at *
  generalize d.natAbs / k.natAbs = y at *
  omega
def fundB (d : Int) : Bool := if d = 0 ∨ d = 1 then false else (decide (d % 4 = 1) && freeB d.natAbs) || (decide (d.tmod 4 = 0) && decide (2 ≤ d.tdiv 4 % 4) && freeB (d.tdiv 4).natAbs)
end Go.Proofs.YtjijdabbhfefjaaGreatDoor

