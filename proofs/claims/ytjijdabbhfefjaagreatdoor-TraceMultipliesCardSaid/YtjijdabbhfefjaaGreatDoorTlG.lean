/- The statements about traces: products. -/
import Derived.Test.YtjijdabbhfefjaaGreatDoorTlA
import Derived.Test.YtjijdabbhfefjaaGreatDoorTsK
import Derived.Test.YtjijdabbhfefjaaGreatDoorPkVgU
namespace Go.Proofs.YtjijdabbhfefjaaGreatDoor
open Go Go.RowKit Go.VG HP
theorem g18_sp (a b : Nat) (ha : a ≤ 1000) (hb : b ≤ 1000) : Sp CX 26 [int .i64 a, int .i64 b] (int .i64 (Nat.gcd a b : Nat)) := by
  have g := gcd18_sp a b (by omega) (by omega) (by omega) (by omega)
  exact g
structure TrAns (L K D n : Int) (z : V1) (e : Int) : Prop where
  s : Sp CX 16 [specA L K D, int .i64 n] (.tup [z, .c (ix e)])
theorem mul_walk (L K D d e : Int) (m n : Nat) (hm : m ≤ 255) (hn : n ≤ 255) (c : Sp CX 25 [specA L K D] (.tup [.c (ix d), .c (ix e)])) (h : e ≠ 0 ∨ d ≠ 1 ∨ Nat.gcd (m % 11 + 1) (n % 11 + 1) ≠ 1) : Sp CX 8 [specA L K D, int .u8 m, int .u8 n] (bool true) := by
  have s0 := tawake_sp
  have em : (m : Int).tmod 11 = ((m % 11 : Nat) : Int) := (Int.ofNat_tmod m 11).symm
  have en : (n : Int).tmod 11 = ((n % 11 : Nat) : Int) := (Int.ofNat_tmod n 11).symm
  have g := g18_sp (m % 11 + 1) (n % 11 + 1) (by omega) (by omega)
  generalize Nat.gcd (m % 11 + 1) (n % 11 + 1) = G at *
  by_cases h1 : e = 0
  · by_cases h2 : d = 1
    · have h3 : ¬ G = 1 := by omega
      refine fn_sp (C := CX) [] [] tysX_ok mixed Tryz.func8 rfl (by kernel_rfl) Tryz.ntmps8 rfl rfl ?_
      repeat' ((conv => whnf); first | refine Ja ?_ | refine Jb ?_ | refine Jc ?_ | refine Jd ?_ | refine Je ?_ | refine Jf ?_ | refine Jg rfl ?_ | refine Jh rfl ?_ | refine Ji ?_ | refine Jj ?_ | refine Jk rfl ?_ | refine Jl ?_ | refine Jm ?_ | refine Jn rfl ?_ | refine Jo ?_ | refine Jp ?_ | refine Jq rfl ?_ | refine Jr ?_ | refine Js ?_ | refine Jt rfl ?_ | refine Ju ?_ | refine Jv ?_ | refine Jw ?_ | refine Jx rfl ?_ | refine Jy s0 ?_ | refine Jy c ?_ | refine Sp.call (g) (.cons (.int (by omega)) (.cons (.int (by omega)) .nil)) rfl (AvLe.refl _) ?_)
      refine ⟨⟨_, _, rfl, rfl, ?_⟩⟩
      exact AvLe.bool rfl
    · refine fn_sp (C := CX) [] [] tysX_ok mixed Tryz.func8 rfl (by kernel_rfl) Tryz.ntmps8 rfl rfl ?_
      repeat' ((conv => whnf); first | refine Ja ?_ | refine Jb ?_ | refine Jc ?_ | refine Jd ?_ | refine Je ?_ | refine Jf ?_ | refine Jg rfl ?_ | refine Jh rfl ?_ | refine Ji ?_ | refine Jj ?_ | refine Jk rfl ?_ | refine Jl ?_ | refine Jm ?_ | refine Jn rfl ?_ | refine Jo ?_ | refine Jp ?_ | refine Jq rfl ?_ | refine Jr ?_ | refine Js ?_ | refine Jt rfl ?_ | refine Ju ?_ | refine Jv ?_ | refine Jw ?_ | refine Jx rfl ?_ | refine Jy s0 ?_ | refine Jy c ?_)
      refine ⟨⟨_, _, rfl, rfl, ?_⟩⟩
      exact AvLe.bool rfl
  · refine fn_sp (C := CX) [] [] tysX_ok mixed Tryz.func8 rfl (by kernel_rfl) Tryz.ntmps8 rfl rfl ?_
    repeat' ((conv => whnf); first | refine Ja ?_ | refine Jb ?_ | refine Jc ?_ | refine Jd ?_ | refine Je ?_ | refine Jf ?_ | refine Jg rfl ?_ | refine Jh rfl ?_ | refine Ji ?_ | refine Jj ?_ | refine Jk rfl ?_ | refine Jl ?_ | refine Jm ?_ | refine Jn rfl ?_ | refine Jo ?_ | refine Jp ?_ | refine Jq rfl ?_ | refine Jr ?_ | refine Js ?_ | refine Jt rfl ?_ | refine Ju ?_ | refine Jv ?_ | refine Jw ?_ | refine Jx rfl ?_ | refine Jy s0 ?_ | refine Jy c ?_)
    refine ⟨⟨_, _, rfl, rfl, ?_⟩⟩
    exact AvLe.bool rfl
theorem mul_err (L K D ea eb : Int) (za zb : Int) (m n : Nat) (hm : m ≤ 255) (hn : n ≤ 255) (c : Sp CX 25 [specA L K D] (.tup [.c (ix 1), .c (ix 0)])) (hg : Nat.gcd (m % 11 + 1) (n % 11 + 1) = 1)
    (va vb : V1) (ha : TrAns L K D (m % 11 + 1 : Nat) va ea) (hb : TrAns L K D (n % 11 + 1 : Nat) vb eb) (qa : va = zV za ∨ va = .agg iZs) (qb : vb = zV zb ∨ vb = .agg iZs) (h : ea ≠ 0 ∨ eb ≠ 0) : Sp CX 8 [specA L K D, int .u8 m, int .u8 n] (bool true) := by
  have s0 := tawake_sp
  have em : (m : Int).tmod 11 = ((m % 11 : Nat) : Int) := (Int.ofNat_tmod m 11).symm
  have en : (n : Int).tmod 11 = ((n % 11 : Nat) : Int) := (Int.ofNat_tmod n 11).symm
  have g := g18_sp (m % 11 + 1) (n % 11 + 1) (by omega) (by omega)
  rw [hg] at g
  obtain ⟨sa⟩ := ha
  obtain ⟨sb⟩ := hb
  by_cases h1 : ea = 0
  · have h2 : ¬ eb = 0 := by omega
    rcases qa with rfl | rfl <;> rcases qb with rfl | rfl
    · refine fn_sp (C := CX) [] [] tysX_ok mixed Tryz.func8 rfl (by kernel_rfl) Tryz.ntmps8 rfl rfl ?_
      repeat' ((conv => whnf); first | refine Ja ?_ | refine Jb ?_ | refine Jc ?_ | refine Jd ?_ | refine Je ?_ | refine Jf ?_ | refine Jg rfl ?_ | refine Jh rfl ?_ | refine Ji ?_ | refine Jj ?_ | refine Jk rfl ?_ | refine Jl ?_ | refine Jm ?_ | refine Jn rfl ?_ | refine Jo ?_ | refine Jp ?_ | refine Jq rfl ?_ | refine Jr ?_ | refine Js ?_ | refine Jt rfl ?_ | refine Ju ?_ | refine Jv ?_ | refine Jw ?_ | refine Jx rfl ?_ | refine Jy s0 ?_ | refine Jy c ?_ | refine Sp.call (g) (.cons (.int (by omega)) (.cons (.int (by omega)) .nil)) rfl (AvLe.refl _) ?_ | refine Sp.call (sa) (.cons (.refl _) (.cons (.int (by omega)) .nil)) rfl (AvLe.refl _) ?_ | refine Sp.call (sb) (.cons (.refl _) (.cons (.int (by omega)) .nil)) rfl (AvLe.refl _) ?_)
      refine ⟨⟨_, _, rfl, rfl, ?_⟩⟩
      exact AvLe.bool rfl
    · refine fn_sp (C := CX) [] [] tysX_ok mixed Tryz.func8 rfl (by kernel_rfl) Tryz.ntmps8 rfl rfl ?_
      repeat' ((conv => whnf); first | refine Ja ?_ | refine Jb ?_ | refine Jc ?_ | refine Jd ?_ | refine Je ?_ | refine Jf ?_ | refine Jg rfl ?_ | refine Jh rfl ?_ | refine Ji ?_ | refine Jj ?_ | refine Jk rfl ?_ | refine Jl ?_ | refine Jm ?_ | refine Jn rfl ?_ | refine Jo ?_ | refine Jp ?_ | refine Jq rfl ?_ | refine Jr ?_ | refine Js ?_ | refine Jt rfl ?_ | refine Ju ?_ | refine Jv ?_ | refine Jw ?_ | refine Jx rfl ?_ | refine Jy s0 ?_ | refine Jy c ?_ | refine Sp.call (g) (.cons (.int (by omega)) (.cons (.int (by omega)) .nil)) rfl (AvLe.refl _) ?_ | refine Sp.call (sa) (.cons (.refl _) (.cons (.int (by omega)) .nil)) rfl (AvLe.refl _) ?_ | refine Sp.call (sb) (.cons (.refl _) (.cons (.int (by omega)) .nil)) rfl (AvLe.refl _) ?_)
      refine ⟨⟨_, _, rfl, rfl, ?_⟩⟩
      exact AvLe.bool rfl
    · refine fn_sp (C := CX) [] [] tysX_ok mixed Tryz.func8 rfl (by kernel_rfl) Tryz.ntmps8 rfl rfl ?_
      repeat' ((conv => whnf); first | refine Ja ?_ | refine Jb ?_ | refine Jc ?_ | refine Jd ?_ | refine Je ?_ | refine Jf ?_ | refine Jg rfl ?_ | refine Jh rfl ?_ | refine Ji ?_ | refine Jj ?_ | refine Jk rfl ?_ | refine Jl ?_ | refine Jm ?_ | refine Jn rfl ?_ | refine Jo ?_ | refine Jp ?_ | refine Jq rfl ?_ | refine Jr ?_ | refine Js ?_ | refine Jt rfl ?_ | refine Ju ?_ | refine Jv ?_ | refine Jw ?_ | refine Jx rfl ?_ | refine Jy s0 ?_ | refine Jy c ?_ | refine Sp.call (g) (.cons (.int (by omega)) (.cons (.int (by omega)) .nil)) rfl (AvLe.refl _) ?_ | refine Sp.call (sa) (.cons (.refl _) (.cons (.int (by omega)) .nil)) rfl (AvLe.refl _) ?_ | refine Sp.call (sb) (.cons (.refl _) (.cons (.int (by omega)) .nil)) rfl (AvLe.refl _) ?_)
      refine ⟨⟨_, _, rfl, rfl, ?_⟩⟩
      exact AvLe.bool rfl
    · refine fn_sp (C := CX) [] [] tysX_ok mixed Tryz.func8 rfl (by kernel_rfl) Tryz.ntmps8 rfl rfl ?_
      repeat' ((conv => whnf); first | refine Ja ?_ | refine Jb ?_ | refine Jc ?_ | refine Jd ?_ | refine Je ?_ | refine Jf ?_ | refine Jg rfl ?_ | refine Jh rfl ?_ | refine Ji ?_ | refine Jj ?_ | refine Jk rfl ?_ | refine Jl ?_ | refine Jm ?_ | refine Jn rfl ?_ | refine Jo ?_ | refine Jp ?_ | refine Jq rfl ?_ | refine Jr ?_ | refine Js ?_ | refine Jt rfl ?_ | refine Ju ?_ | refine Jv ?_ | refine Jw ?_ | refine Jx rfl ?_ | refine Jy s0 ?_ | refine Jy c ?_ | refine Sp.call (g) (.cons (.int (by omega)) (.cons (.int (by omega)) .nil)) rfl (AvLe.refl _) ?_ | refine Sp.call (sa) (.cons (.refl _) (.cons (.int (by omega)) .nil)) rfl (AvLe.refl _) ?_ | refine Sp.call (sb) (.cons (.refl _) (.cons (.int (by omega)) .nil)) rfl (AvLe.refl _) ?_)
      refine ⟨⟨_, _, rfl, rfl, ?_⟩⟩
      exact AvLe.bool rfl
  · rcases qa with rfl | rfl <;> rcases qb with rfl | rfl
    · refine fn_sp (C := CX) [] [] tysX_ok mixed Tryz.func8 rfl (by kernel_rfl) Tryz.ntmps8 rfl rfl ?_
      repeat' ((conv => whnf); first | refine Ja ?_ | refine Jb ?_ | refine Jc ?_ | refine Jd ?_ | refine Je ?_ | refine Jf ?_ | refine Jg rfl ?_ | refine Jh rfl ?_ | refine Ji ?_ | refine Jj ?_ | refine Jk rfl ?_ | refine Jl ?_ | refine Jm ?_ | refine Jn rfl ?_ | refine Jo ?_ | refine Jp ?_ | refine Jq rfl ?_ | refine Jr ?_ | refine Js ?_ | refine Jt rfl ?_ | refine Ju ?_ | refine Jv ?_ | refine Jw ?_ | refine Jx rfl ?_ | refine Jy s0 ?_ | refine Jy c ?_ | refine Sp.call (g) (.cons (.int (by omega)) (.cons (.int (by omega)) .nil)) rfl (AvLe.refl _) ?_ | refine Sp.call (sa) (.cons (.refl _) (.cons (.int (by omega)) .nil)) rfl (AvLe.refl _) ?_ | refine Sp.call (sb) (.cons (.refl _) (.cons (.int (by omega)) .nil)) rfl (AvLe.refl _) ?_)
      refine ⟨⟨_, _, rfl, rfl, ?_⟩⟩
      exact AvLe.bool rfl
    · refine fn_sp (C := CX) [] [] tysX_ok mixed Tryz.func8 rfl (by kernel_rfl) Tryz.ntmps8 rfl rfl ?_
      repeat' ((conv => whnf); first | refine Ja ?_ | refine Jb ?_ | refine Jc ?_ | refine Jd ?_ | refine Je ?_ | refine Jf ?_ | refine Jg rfl ?_ | refine Jh rfl ?_ | refine Ji ?_ | refine Jj ?_ | refine Jk rfl ?_ | refine Jl ?_ | refine Jm ?_ | refine Jn rfl ?_ | refine Jo ?_ | refine Jp ?_ | refine Jq rfl ?_ | refine Jr ?_ | refine Js ?_ | refine Jt rfl ?_ | refine Ju ?_ | refine Jv ?_ | refine Jw ?_ | refine Jx rfl ?_ | refine Jy s0 ?_ | refine Jy c ?_ | refine Sp.call (g) (.cons (.int (by omega)) (.cons (.int (by omega)) .nil)) rfl (AvLe.refl _) ?_ | refine Sp.call (sa) (.cons (.refl _) (.cons (.int (by omega)) .nil)) rfl (AvLe.refl _) ?_ | refine Sp.call (sb) (.cons (.refl _) (.cons (.int (by omega)) .nil)) rfl (AvLe.refl _) ?_)
      refine ⟨⟨_, _, rfl, rfl, ?_⟩⟩
      exact AvLe.bool rfl
    · refine fn_sp (C := CX) [] [] tysX_ok mixed Tryz.func8 rfl (by kernel_rfl) Tryz.ntmps8 rfl rfl ?_
      repeat' ((conv => whnf); first | refine Ja ?_ | refine Jb ?_ | refine Jc ?_ | refine Jd ?_ | refine Je ?_ | refine Jf ?_ | refine Jg rfl ?_ | refine Jh rfl ?_ | refine Ji ?_ | refine Jj ?_ | refine Jk rfl ?_ | refine Jl ?_ | refine Jm ?_ | refine Jn rfl ?_ | refine Jo ?_ | refine Jp ?_ | refine Jq rfl ?_ | refine Jr ?_ | refine Js ?_ | refine Jt rfl ?_ | refine Ju ?_ | refine Jv ?_ | refine Jw ?_ | refine Jx rfl ?_ | refine Jy s0 ?_ | refine Jy c ?_ | refine Sp.call (g) (.cons (.int (by omega)) (.cons (.int (by omega)) .nil)) rfl (AvLe.refl _) ?_ | refine Sp.call (sa) (.cons (.refl _) (.cons (.int (by omega)) .nil)) rfl (AvLe.refl _) ?_ | refine Sp.call (sb) (.cons (.refl _) (.cons (.int (by omega)) .nil)) rfl (AvLe.refl _) ?_)
      refine ⟨⟨_, _, rfl, rfl, ?_⟩⟩
      exact AvLe.bool rfl
    · refine fn_sp (C := CX) [] [] tysX_ok mixed Tryz.func8 rfl (by kernel_rfl) Tryz.ntmps8 rfl rfl ?_
      repeat' ((conv => whnf); first | refine Ja ?_ | refine Jb ?_ | refine Jc ?_ | refine Jd ?_ | refine Je ?_ | refine Jf ?_ | refine Jg rfl ?_ | refine Jh rfl ?_ | refine Ji ?_ | refine Jj ?_ | refine Jk rfl ?_ | refine Jl ?_ | refine Jm ?_ | refine Jn rfl ?_ | refine Jo ?_ | refine Jp ?_ | refine Jq rfl ?_ | refine Jr ?_ | refine Js ?_ | refine Jt rfl ?_ | refine Ju ?_ | refine Jv ?_ | refine Jw ?_ | refine Jx rfl ?_ | refine Jy s0 ?_ | refine Jy c ?_ | refine Sp.call (g) (.cons (.int (by omega)) (.cons (.int (by omega)) .nil)) rfl (AvLe.refl _) ?_ | refine Sp.call (sa) (.cons (.refl _) (.cons (.int (by omega)) .nil)) rfl (AvLe.refl _) ?_ | refine Sp.call (sb) (.cons (.refl _) (.cons (.int (by omega)) .nil)) rfl (AvLe.refl _) ?_)
      refine ⟨⟨_, _, rfl, rfl, ?_⟩⟩
      exact AvLe.bool rfl
theorem mul_good (L K D X Y : Int) (m n : Nat) (hm : m ≤ 255) (hn : n ≤ 255) (c : Sp CX 25 [specA L K D] (.tup [.c (ix 1), .c (ix 0)])) (hg : Nat.gcd (m % 11 + 1) (n % 11 + 1) = 1)
    (sa : Sp CX 16 [specA L K D, int .i64 (m % 11 + 1 : Nat)] (.tup [zV X, .c (ix 0)])) (sb : Sp CX 16 [specA L K D, int .i64 (n % 11 + 1 : Nat)] (.tup [zV Y, .c (ix 0)])) (sc : Sp CX 16 [specA L K D, int .i64 ((m % 11 + 1) * (n % 11 + 1) : Nat)] (.tup [zV (X * Y), .c (ix 0)]))
    (lx : ln X.natAbs ≤ 100) (ly : ln Y.natAbs ≤ 100) : Sp CX 8 [specA L K D, int .u8 m, int .u8 n] (bool true) := by
  have s0 := tawake_sp
  have em : (m : Int).tmod 11 = ((m % 11 : Nat) : Int) := (Int.ofNat_tmod m 11).symm
  have en : (n : Int).tmod 11 = ((n % 11 : Nat) : Int) := (Int.ofNat_tmod n 11).symm
  have g := g18_sp (m % 11 + 1) (n % 11 + 1) (by omega) (by omega)
  rw [hg] at g
  have ml := BMul_sp X Y (by omega) (by omega)
  have sm := SameInt_sp (X * Y) (by rw [Int.natAbs_mul]; have := ln_mul X.natAbs Y.natAbs; omega)
  have pe : ((m : Int).tmod 11 + 1) * ((n : Int).tmod 11 + 1) = (((m % 11 + 1) * (n % 11 + 1) : Nat) : Int) := by rw [em, en]; push_cast; rfl
  have pb : (m % 11 + 1) * (n % 11 + 1) ≤ 11 * 11 := Nat.mul_le_mul (by omega) (by omega)
  generalize (m % 11 + 1) * (n % 11 + 1) = P at *
  generalize X * Y = Z at *
  refine fn_sp (C := CX) [] [] tysX_ok mixed Tryz.func8 rfl (by kernel_rfl) Tryz.ntmps8 rfl rfl ?_
  repeat' ((conv => whnf); first | refine Ja ?_ | refine Jb ?_ | refine Jc ?_ | refine Jd ?_ | refine Je ?_ | refine Jf ?_ | refine Jg rfl ?_ | refine Jh rfl ?_ | refine Ji ?_ | refine Jj ?_ | refine Jk rfl ?_ | refine Jl ?_ | refine Jm ?_ | refine Jn rfl ?_ | refine Jo ?_ | refine Jp ?_ | refine Jq rfl ?_ | refine Jr ?_ | refine Js ?_ | refine Jt rfl ?_ | refine Ju ?_ | refine Jv ?_ | refine Jw ?_ | refine Jx rfl ?_ | refine Jy s0 ?_ | refine Jy c ?_ | refine Sp.call (g) (.cons (.int (by omega)) (.cons (.int (by omega)) .nil)) rfl (AvLe.refl _) ?_ | refine Sp.call (sa) (.cons (.refl _) (.cons (.int (by omega)) .nil)) rfl (AvLe.refl _) ?_ | refine Sp.call (sb) (.cons (.refl _) (.cons (.int (by omega)) .nil)) rfl (AvLe.refl _) ?_ | refine Sp.call (sc) (.cons (.refl _) (.cons (.int pe) .nil)) rfl (AvLe.refl _) ?_ | refine Jy ml ?_ | refine Jy sm ?_)
  refine ⟨⟨_, _, rfl, rfl, ?_⟩⟩
  exact AvLe.bool rfl
theorem tr_any {N k n : Nat} {D : Int} (ok : DOk N k D) (n1 : 1 ≤ n) (n2 : n ≤ 128) (hd : Nat.gcd n N = 1 → (12 : Int) ∣ T12 N k D n) : TrAns N k D n (if Nat.gcd n N = 1 then zV (T12 N k D n / 12) else .agg iZs) (if Nat.gcd n N = 1 then 0 else 9) := by
  by_cases h : Nat.gcd n N = 1
  · rw [if_pos h, if_pos h]
    exact ⟨Trace_ok N k n D ok n1 n2 h (hd h)⟩
  · rw [if_neg h, if_neg h]
    have e : trE N k D n = 9 := by
      unfold trE
      rw [ok.chk, if_neg (fun x => x rfl), if_neg (by omega), if_neg (show ¬ Int.gcd (n : Int) (N : Int) = 1 from h)]
    have := Trace_bad N k D n (by rw [e]; decide)
    rw [e] at this
    exact ⟨this⟩
theorem ediv_mul12 {a b c : Int} (h : 12 * c = a * b) (ha : (12 : Int) ∣ a) (hb : (12 : Int) ∣ b) : c / 12 = a / 12 * (b / 12) := by
  obtain ⟨x, rfl⟩ := ha
  obtain ⟨y, rfl⟩ := hb
  rw [Int.mul_ediv_cancel_left _ (by omega), Int.mul_ediv_cancel_left _ (by omega)]
  have : c = 12 * (x * y) := by
    have : 12 * x * (12 * y) = 12 * (12 * (x * y)) := by grind
    omega
  rw [this, Int.mul_ediv_cancel_left _ (by omega)]
theorem law_tmul (L K D m n : Int) (m0 : 0 ≤ m) (m1 : m ≤ 255) (n0 : 0 ≤ n) (n1 : n ≤ 255) : Sp CX 8 [specA L K D, int .u8 m, int .u8 n] (bool true) := by
  obtain ⟨m, rfl⟩ := Int.eq_ofNat_of_zero_le m0
  obtain ⟨n, rfl⟩ := Int.eq_ofNat_of_zero_le n0
  by_cases h : dchk L K D = 0
  · obtain ⟨N, k, rfl, rfl, ok⟩ := dchk_out h
    have c := cusp_ok N k D ok
    by_cases hw : cuspV N k D ≠ 1 ∨ Nat.gcd (m % 11 + 1) (n % 11 + 1) ≠ 1
    · exact mul_walk N k D _ 0 m n (by omega) (by omega) c (.inr hw)
    · have hc : cuspV N k D = 1 := Classical.byContradiction fun x => hw (.inl x)
      have hg : Nat.gcd (m % 11 + 1) (n % 11 + 1) = 1 := Classical.byContradiction fun x => hw (.inr x)
      rw [hc] at c
      have fx : Nat.gcd (m % 11 + 1) N = 1 → (12 : Int) ∣ T12 N k D (m % 11 + 1 : Nat) := fun hx => by
        have := (mul_fact ok hc (x := m % 11 + 1) (y := 1) (by omega) (by omega) (by omega) (by omega) (Nat.gcd_one_right _) hx (Nat.gcd_one_left _)).1
        rwa [Nat.mul_one] at this
      have fy : Nat.gcd (n % 11 + 1) N = 1 → (12 : Int) ∣ T12 N k D (n % 11 + 1 : Nat) := fun hx => by
        have := (mul_fact ok hc (x := n % 11 + 1) (y := 1) (by omega) (by omega) (by omega) (by omega) (Nat.gcd_one_right _) hx (Nat.gcd_one_left _)).1
        rwa [Nat.mul_one] at this
      have ta := tr_any ok (n := m % 11 + 1) (by omega) (by omega) fx
      have tb := tr_any ok (n := n % 11 + 1) (by omega) (by omega) fy
      by_cases hx : Nat.gcd (m % 11 + 1) N = 1
      · by_cases hy : Nat.gcd (n % 11 + 1) N = 1
        · obtain ⟨f1, f2⟩ := mul_fact ok hc (x := m % 11 + 1) (y := n % 11 + 1) (by omega) (by omega) (by omega) (by omega) hg hx hy
          have pb : (m % 11 + 1) * (n % 11 + 1) ≤ 11 * 11 := Nat.mul_le_mul (by omega) (by omega)
          have pp : 1 ≤ (m % 11 + 1) * (n % 11 + 1) := Nat.mul_pos (by omega) (by omega)
          have tc := Trace_ok N k ((m % 11 + 1) * (n % 11 + 1)) D ok pp (by omega) (gcd_mulN hx hy) f1
          rw [ediv_mul12 f2 (fx hx) (fy hy)] at tc
          exact mul_good N k D _ _ m n (by omega) (by omega) c hg (Trace_ok N k _ D ok (by omega) (by omega) hx (fx hx)) (Trace_ok N k _ D ok (by omega) (by omega) hy (fy hy)) tc (trQ_ok ok (by omega) (by omega) (fx hx)).x (trQ_ok ok (by omega) (by omega) (fy hy)).x
        · rw [if_pos hx, if_pos hx] at ta
          rw [if_neg hy, if_neg hy] at tb
          exact mul_err N k D 0 9 _ 0 m n (by omega) (by omega) c hg _ _ ta tb (.inl rfl) (.inr rfl) (.inr (by decide))
      · rw [if_neg hx, if_neg hx] at ta
        by_cases hy : Nat.gcd (n % 11 + 1) N = 1
        · rw [if_pos hy, if_pos hy] at tb
          exact mul_err N k D 9 0 0 _ m n (by omega) (by omega) c hg _ _ ta tb (.inr rfl) (.inl rfl) (.inl (by decide))
        · rw [if_neg hy, if_neg hy] at tb
          exact mul_err N k D 9 9 0 0 m n (by omega) (by omega) c hg _ _ ta tb (.inr rfl) (.inr rfl) (.inl (by decide))
  · exact mul_walk L K D _ _ m n (by omega) (by omega) (cusp_bad L K D h) (.inl h)
end Go.Proofs.YtjijdabbhfefjaaGreatDoor
