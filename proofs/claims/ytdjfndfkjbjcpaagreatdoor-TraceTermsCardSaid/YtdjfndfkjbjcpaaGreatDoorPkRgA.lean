/- Own texts joined: RgA, RgB, RgC. -/
import Derived.Test.YtdjfndfkjbjcpaaGreatDoorPkRtC
import Derived.Test.YtdjfndfkjbjcpaaGreatDoorPkBnA
import Derived.Test.YtdjfndfkjbjcpaaGreatDoorRgP
import Derived.Test.YtdjfndfkjbjcpaaGreatDoorVgAA
/- Bigints of the reference in letters: Sign, Neg, Abs, Sub, Of 1, Same 1, words, binary digits. -/
namespace Go.Proofs.YtdjfndfkjbjcpaaGreatDoor
open Go Go.RowKit Go.VG HP
theorem rSign_sp (z : Int) (h : ln z.natAbs ≤ 1000000) : Sp CX 103 [zA z] (int .i64 z.sign) := by
  have s := rNorm_z z h
  have l := ln_pos' (x := z.natAbs)
  rcases sgn_tri z with ⟨e, hz⟩ | ⟨e, hz⟩ | ⟨e, hz⟩
  · rw [e]
    have l0 : ¬ ln z.natAbs = 0 := fun x => by have := l.1 x; omega
    refine fn_sp (C := CX) [] [] tysX_ok mixed Tryz.func103 rfl (by kernel_rfl) Tryz.ntmps103 rfl rfl ?_
    repeat' ((conv => whnf); first | refine Je ?_ | refine Jf ?_ | refine Jy s ?_)
    refine ⟨⟨_, _, rfl, rfl, ?_⟩⟩
    exact AvLe.refl _
  · rw [e]
    have l0 : ln z.natAbs = 0 := l.2 (by omega)
    refine fn_sp (C := CX) [] [] tysX_ok mixed Tryz.func103 rfl (by kernel_rfl) Tryz.ntmps103 rfl rfl ?_
    repeat' ((conv => whnf); first | refine Je ?_ | refine Jy s ?_)
    refine ⟨⟨_, _, rfl, rfl, ?_⟩⟩
    exact AvLe.refl _
  · rw [e]
    have l0 : ¬ ln z.natAbs = 0 := fun x => by have := l.1 x; omega
    have hz2 : ¬ z < 0 := by omega
    refine fn_sp (C := CX) [] [] tysX_ok mixed Tryz.func103 rfl (by kernel_rfl) Tryz.ntmps103 rfl rfl ?_
    repeat' ((conv => whnf); first | refine Jf ?_ | refine Jy s ?_)
    refine ⟨⟨_, _, rfl, rfl, ?_⟩⟩
    exact AvLe.refl _
theorem rNeg_sp (a : Int) (h : ln a.natAbs ≤ 1000000) : Sp CX 106 [zA a] (zA (-a)) := by
  have g := rsigned_sp (!decide (a < 0)) a.natAbs (ln a.natAbs) (Nat.le_refl _) h
  have e : (if (!decide (a < 0)) = true then -(a.natAbs : Int) else (a.natAbs : Int)) = -a := by
    by_cases ha : a < 0
    · rw [decide_eq_true ha, if_neg (by decide)]; omega
    · rw [decide_eq_false ha, if_pos (by decide)]; omega
  rw [zS_eq, e] at g
  refine fn_sp (C := CX) [] [] tysX_ok mixed Tryz.func106 rfl (by kernel_rfl) Tryz.ntmps106 rfl rfl ?_
  repeat' ((conv => whnf); first | refine Ja ?_ | refine Jy g ?_)
  refine ⟨⟨_, _, rfl, rfl, ?_⟩⟩
  exact AvLe.refl _
theorem rAbs_sp (a : Int) (h : ln a.natAbs ≤ 1000000) : Sp CX 140 [zA a] (zA (a.natAbs : Nat)) := by
  have g := rsigned_sp false a.natAbs (ln a.natAbs) (Nat.le_refl _) h
  rw [zS_eq, if_neg (by decide)] at g
  refine fn_sp (C := CX) [] [] tysX_ok mixed Tryz.func140 rfl (by kernel_rfl) Tryz.ntmps140 rfl rfl ?_
  repeat' ((conv => whnf); first | refine Ja ?_ | refine Jy g ?_)
  refine ⟨⟨_, _, rfl, rfl, ?_⟩⟩
  exact AvLe.refl _
theorem rOf1_sp : Sp CX 108 [int .i64 1] (zA 1) := by
  have s := rsigned_sp false 1 2 (by decide) (by decide)
  rw [zS_eq, if_neg (by decide)] at s
  have s : Sp CX 111 [bool false, dsA 1 2] (zA 1) := s
  refine fn_sp (C := CX) [] [] tysX_ok mixed Tryz.func108 rfl (by kernel_rfl) Tryz.ntmps108 rfl rfl ?_
  repeat' ((conv => whnf); first | refine Jb ?_ | refine Jf ?_ | refine Sp.call (s) (.cons (.bool rfl) (.cons (.leaf (build2 (by decide) (by decide))) .nil)) rfl (AvLe.refl _) ?_)
  refine ⟨⟨_, _, rfl, rfl, ?_⟩⟩
  exact AvLe.refl _
theorem spLe32 {C : Ctx} {f : FuncId} {args args' : List AV} {r : AV} (h : Sp C f args r) (ha : ArgsLe args' args) : Sp C f args' r :=
  ⟨h.ok, h.cl, fun O w vs hO hG hv => h.w O w vs hO hG fun ρ w' hx => ha.args (hv ρ w' hx)⟩
theorem rSame1c_sp (g : Nat) (h : ln g ≤ 1000000) : Sp CX 107 [.v (.agg [.x (.bool false), dsL g (ln g)]), .v (.agg [.x (.bool false), dsL 1 (ln 1)])] (bool (decide (g = 1))) := by
  have l1 : ln 1 = 1 := by decide
  have d1 : dg 1 0 = 1 := by decide
  by_cases hl : ln g = 1
  · obtain ⟨o1, o2⟩ := one_dg hl
    by_cases hg : g = 1
    · rw [decide_eq_true hg]
      subst hg
      refine fn_sp (C := CX) [] [] tysX_ok mixed Tryz.func107 rfl (by kernel_rfl) Tryz.ntmps107 rfl rfl ?_
      repeat' ((conv => whnf); first | refine Jf ?_)
      refine ⟨⟨Nat, fun i => ⟨[(2, .v (.c (.loc 0 0))), (3, .v (.c (.loc 1 0))), (5, int .i64 i)], [(0, .st [.x (.bool false), dsL 1 (ln 1)]), (1, .st [.x (.bool false), dsL 1 (ln 1)])], 2⟩, fun i => i ≤ 1, fun i => 1 - i, ⟨0, [], Nat.zero_le _, Ent.g⟩, ?_⟩⟩
      rintro i hi
      by_cases h0 : i = 0
      · subst h0
        repeat' ((conv => whnf); first | (refine Idx.mk ⟨0, rfl, by decide, ?_⟩) | refine Jb ?_ | refine Je ?_ | refine Jf ?_ | refine Ji ?_ | refine Jj ?_ | refine Jk rfl ?_)
        exact ⟨1, [], by omega, by show 1 - 1 < 1 - 0; omega, Ent.g⟩
      · obtain rfl : i = 1 := by omega
        repeat' ((conv => whnf); first | refine Jf ?_)
        refine ⟨⟨_, _, rfl, rfl, ?_⟩⟩
        exact AvLe.refl _
    · rw [decide_eq_false hg]
      have hd : ¬ dg g 0 = 1 := by rw [o1]; exact hg
      refine fn_sp (C := CX) [] [] tysX_ok mixed Tryz.func107 rfl (by kernel_rfl) Tryz.ntmps107 rfl rfl ?_
      repeat' ((conv => whnf); first | refine Jf ?_)
      refine ⟨⟨Nat, fun i => ⟨[(2, .v (.c (.loc 0 0))), (3, .v (.c (.loc 1 0))), (5, int .i64 i)], [(0, .st [.x (.bool false), dsL g (ln g)]), (1, .st [.x (.bool false), dsL 1 (ln 1)])], 2⟩, fun i => i = 0, fun i => 1 - i, ⟨0, [], rfl, Ent.g⟩, ?_⟩⟩
      rintro i rfl
      repeat' ((conv => whnf); first | (refine Idx.mk ⟨0, rfl, by omega, ?_⟩) | refine Je ?_ | refine Ji ?_ | refine Jj ?_ | refine Jk rfl ?_)
      refine ⟨⟨_, _, rfl, rfl, ?_⟩⟩
      exact AvLe.refl _
  · have hg : ¬ g = 1 := fun e => hl (by rw [e]; rfl)
    rw [decide_eq_false hg]
    refine fn_sp (C := CX) [] [] tysX_ok mixed Tryz.func107 rfl (by kernel_rfl) Tryz.ntmps107 rfl rfl ?_
    repeat' ((conv => whnf); first | refine Je ?_ | refine Jf ?_)
    refine ⟨⟨_, _, rfl, rfl, ?_⟩⟩
    exact AvLe.refl _
theorem rSame1_sp (g : Nat) (h : ln g ≤ 1000000) : Sp CX 107 [zA (g : Int), zA 1] (bool (decide (g = 1))) :=
  spLe32 (rSame1c_sp g h) (.cons (.agg (.cons (.bool (decide_eq_false (by omega))) (.cons (.refl _) .nil))) (.cons (.agg (.cons (.bool rfl) (.cons (.refl _) .nil))) .nil))
theorem word_step {x q : Nat} : x / W32 ^ (q + 1) * 4294967296 + dg x q = x / W32 ^ q := (div_dg x q).symm
theorem two_lt {x : Nat} (h : ln x ≤ 2) : x < 18446744073709551616 := by
  have := Nat.lt_of_lt_of_le (lt_ln x) (w32_mono h)
  rw [show W32 ^ 2 = 18446744073709551616 by decide] at this
  exact this
set_option maxHeartbeats 4000000 in
set_option maxRecDepth 20000 in
theorem rword_sp (x : Nat) (h : ln x ≤ 2) : Sp CX 141 [dsA x (ln x)] (int .u64 x) := by
  have hx := two_lt h
  obtain ⟨X, hX⟩ : ∃ X, X = x := ⟨_, rfl⟩
  refine fn_sp (C := CX) [] [] tysX_ok mixed Tryz.func141 rfl (by kernel_rfl) Tryz.ntmps141 rfl rfl ?_
  repeat' ((conv => whnf); first | refine Jb ?_)
  refine ⟨⟨Nat × Nat, fun (k, o) => ⟨[(0, dsA x (ln x)), (3, int .u64 o), (4, int .i64 ((k : Int) - 1))], [], 0⟩, fun (k, o) => k ≤ ln x ∧ o = x / W32 ^ k, fun (k, _) => k, ⟨(ln x, 0), [], ⟨Nat.le_refl _, (Nat.div_eq_of_lt (lt_ln x)).symm⟩, Ent.g⟩, ?_⟩⟩
  rintro ⟨k, o⟩ ⟨hk, ho⟩
  by_cases h0 : k = 0
  · subst h0
    rw [Nat.pow_zero, Nat.div_one] at ho
    subst ho
    repeat' ((conv => whnf); first | refine Jf ?_)
    refine ⟨⟨_, _, rfl, rfl, ?_⟩⟩
    exact AvLe.refl _
  · obtain ⟨q, rfl⟩ : ∃ q, k = q + 1 := ⟨k - 1, by omega⟩
    have ws := word_step (x := x) (q := q)
    have d0 := dg32 x q
    have hq := Nat.div_le_self x (W32 ^ q)
    rw [← ho] at ws
    have b1 : o * 4294967296 < 18446744073709551616 := by omega
    have ew : IntKind.u64.wrap ((o : Int) * 4294967296) = ((o * 4294967296 : Nat) : Int) := by
      have e : (o : Int) * 4294967296 = ((o * 4294967296 : Nat) : Int) := (Int.natCast_mul o 4294967296).symm
      rw [e]
      exact wrap_in (by show (0 : Int) ≤ _ ∧ _ ≤ (18446744073709551615 : Int); omega)
    repeat' ((conv => whnf); first | (refine Idx.mk ⟨q, by omega, by omega, ?_⟩) | refine Jb ?_ | refine Je ?_)
    exact ⟨(q, x / W32 ^ q), [], ⟨by omega, rfl⟩, by show q < q + 1; omega, by
      refine ⟨?_, .nil, rfl⟩
      exact .cons (.refl _) (.cons (.int (by omega)) (.cons (.int (by omega)) .nil))⟩
theorem rsplit_sp (N : Nat) (h : N < 18446744073709551616) : Sp CX 142 [int .u64 N] (dsA N (ln N)) := by
  have t := rtrim_sp N 2 (ln_two h) (by omega)
  refine fn_sp (C := CX) [] [] tysX_ok mixed Tryz.func142 rfl (by kernel_rfl) Tryz.ntmps142 rfl rfl ?_
  repeat' ((conv => whnf); first | refine Jb ?_ | refine Jc ?_ | refine Sp.call (t) (.cons (.leaf (build2 (by rw [dg0]; omega) (by rw [dg1 h]; omega))) .nil) rfl (AvLe.refl _) ?_)
  refine ⟨⟨_, _, rfl, rfl, ?_⟩⟩
  exact AvLe.refl _
theorem bitAux_half {f v : Nat} (h : v ≠ 0) : Lib.bitLenAux (f + 1) v = 1 + Lib.bitLenAux f (v / 2) := by
  rw [Lib.bitLenAux, if_neg h]
theorem bitAux_zero : ∀ f, Lib.bitLenAux f 0 = 0
  | 0 => rfl
  | f + 1 => by rw [Lib.bitLenAux, if_pos rfl]
set_option maxHeartbeats 4000000 in
theorem rBits_sp (x : Nat) (h : ln x ≤ 1000000) : Sp CX 171 [.v (.agg [.x (.bool false), dsL x (ln x)])] (int .i64 (bsz x)) := by
  have t := rtrim_sp x (ln x) (Nat.le_refl _) h
  unfold bsz
  by_cases h0 : ln x = 0
  · rw [if_pos h0]
    refine fn_sp (C := CX) [] [] tysX_ok mixed Tryz.func171 rfl (by kernel_rfl) Tryz.ntmps171 rfl rfl ?_
    repeat' ((conv => whnf); first | refine Je ?_ | refine Jy t ?_)
    refine ⟨⟨_, _, rfl, rfl, ?_⟩⟩
    exact AvLe.refl _
  · rw [if_neg h0]
    have d0 : dg x (ln x - 1) < 4294967296 := dg32 x _
    obtain ⟨T, hT⟩ : ∃ T, T = 32 * (ln x - 1) + Lib.bitLen (dg x (ln x - 1)) := ⟨_, rfl⟩
    rw [← hT]
    have hT2 : 32 * (ln x - 1) + Lib.bitLenAux 64 (dg x (ln x - 1)) = T := hT.symm
    have bl := Lib.bitLen_le (dg x (ln x - 1)) 32 (by omega) (by omega)
    have Tb : T ≤ 40000000 := by omega
    clear hT bl
    refine fn_sp (C := CX) [] [] tysX_ok mixed Tryz.func171 rfl (by kernel_rfl) Tryz.ntmps171 rfl rfl ?_
    repeat' ((conv => whnf); first | (refine Idx.mk ⟨ln x - 1, by omega, by omega, ?_⟩) | refine Jb ?_ | refine Jf ?_ | refine Jy t ?_)
    refine ⟨⟨Nat × Nat × Nat, fun (f, v, c) => ⟨[(4, int .i64 c), (5, int .u32 v)], [], 1⟩, fun (f, v, c) => v < 2 ^ f ∧ v < 4294967296 ∧ c + Lib.bitLenAux f v = T, fun (f, _, _) => f, ⟨(64, dg x (ln x - 1), 32 * (ln x - 1)), [], ⟨Nat.lt_of_lt_of_le d0 (by decide), d0, hT2⟩, ?_⟩, ?_⟩⟩
    · refine ⟨?_, ?_, rfl⟩
      · exact .cons (.int (by omega)) (.cons (.refl _) .nil)
      · exact .nil
    rintro ⟨f, v, c⟩ ⟨hv, hv2, hc⟩
    by_cases hz : v = 0
    · subst hz
      rw [bitAux_zero, Nat.add_zero] at hc
      subst hc
      repeat' ((conv => whnf); first | refine Jf ?_)
      refine ⟨⟨_, _, rfl, rfl, ?_⟩⟩
      exact AvLe.refl _
    · cases f with
      | zero => rw [Nat.pow_zero] at hv; omega
      | succ f =>
        rw [bitAux_half hz] at hc
        have et : (v : Int).tdiv 2 = ((v / 2 : Nat) : Int) := (Int.ofNat_tdiv v 2).symm
        repeat' ((conv => whnf); first | refine Ja ?_ | refine Jb ?_ | refine Je ?_)
        exact ⟨(f, v / 2, c + 1), [], ⟨by rw [Nat.pow_succ] at hv; omega, by omega, by omega⟩, by show f < f + 1; omega, by
          refine ⟨?_, .nil, rfl⟩
          exact .cons (.int (by omega)) (.cons (.int (by omega)) .nil)⟩
theorem bsz_spec {x : Nat} (h : x ≠ 0) : x < 2 ^ bsz x ∧ 2 ^ bsz x ≤ 2 * x := by
  have hl := ln_pos h
  have ht := ln_top h
  have hx := lt_ln x
  unfold bsz
  rw [if_neg (by omega)]
  obtain ⟨k, hk⟩ : ∃ k, ln x = k + 1 := ⟨ln x - 1, by omega⟩
  rw [hk] at ht hx ⊢
  rw [Nat.add_sub_cancel] at ht ⊢
  have e : dg x k = x / W32 ^ k := Nat.mod_eq_of_lt (Nat.div_lt_of_lt_mul (by rw [Nat.pow_succ] at hx; exact hx))
  have d32 : dg x k < 4294967296 := dg32 x k
  rw [e] at ht d32 ⊢
  have m := Nat.div_add_mod x (W32 ^ k)
  have ml := Nat.mod_lt x (w32_pos k)
  generalize x % W32 ^ k = r at *
  generalize x / W32 ^ k = d at *
  have b1 := lt_bitLenAux 64 d (by omega)
  have b2 := ge_bitLenAux 64 d (by omega) ht
  have eb : Lib.bitLen d = Lib.bitLenAux 64 d := rfl
  rw [eb, Nat.pow_add, ← w32_two]
  generalize Lib.bitLenAux 64 d = L at *
  have p1 : W32 ^ k * (d + 1) ≤ W32 ^ k * 2 ^ L := Nat.mul_le_mul_left _ b1
  have p2 : W32 ^ k * 2 ^ L ≤ W32 ^ k * (2 * d) := Nat.mul_le_mul_left _ b2
  rw [Nat.mul_add, Nat.mul_one] at p1
  have e2 : W32 ^ k * (2 * d) = 2 * (W32 ^ k * d) := by rw [← Nat.mul_assoc, Nat.mul_comm _ 2, Nat.mul_assoc]
  constructor <;> omega
end Go.Proofs.YtdjfndfkjbjcpaaGreatDoor

/- Bigints of the reference in letters: shifted, divided. -/
namespace Go.Proofs.YtdjfndfkjbjcpaaGreatDoor
open Go Go.RowKit Go.VG HP
theorem ln_shl {x n : Nat} : ln (x * 2 ^ n) ≤ n / 32 + ln x + 1 := by
  refine ln_le ?_
  have h := lt_ln x
  have e := pow_split n
  have s : 2 ^ (n % 32) ≤ W32 := by
    have : 2 ^ (n % 32) ≤ 2 ^ 32 := Nat.pow_le_pow_right (by omega) (by omega)
    exact this
  rw [e]
  have p : W32 ^ (n / 32 + ln x + 1) = W32 ^ ln x * (W32 ^ (n / 32) * W32) := by
    rw [Nat.pow_succ, Nat.add_comm (n / 32), Nat.pow_add, Nat.mul_assoc]
  rw [p]
  have q1 : W32 ^ (n / 32) * 2 ^ (n % 32) ≤ W32 ^ (n / 32) * W32 := Nat.mul_le_mul_left _ s
  have q2 : 0 < W32 ^ (n / 32) * 2 ^ (n % 32) := Nat.mul_pos (w32_pos _) (Nat.pow_pos (by omega))
  exact Nat.lt_of_lt_of_le (Nat.mul_lt_mul_of_pos_right h q2) (Nat.mul_le_mul_left _ q1)
theorem shl_split (x n : Nat) : x * 2 ^ n = W32 ^ (n / 32) * (x * 2 ^ (n % 32)) := by
  rw [pow_split n, ← Nat.mul_assoc, ← Nat.mul_assoc, Nat.mul_comm x]
set_option maxHeartbeats 8000000 in
set_option maxRecDepth 20000 in
theorem rshifted_sp (x n : Nat) (hx : ln x ≤ 100000) (hn : n ≤ 1000000) : Sp CX 172 [dsA x (ln x), int .i64 n] (dsA (x * 2 ^ n) (ln (x * 2 ^ n))) := by
  obtain ⟨m, hm⟩ : ∃ m, m = n / 32 := ⟨_, rfl⟩
  obtain ⟨s, hs⟩ : ∃ s, s = n % 32 := ⟨_, rfl⟩
  have hs31 : s ≤ 31 := by omega
  have dX : ∀ j, dg (x * 2 ^ n) j = if j < m then 0 else dg (x * 2 ^ s) (j - m) := fun j => by rw [shl_split, ← hm, ← hs, dg_up]
  have tr := rtrim_sp (x * 2 ^ n) (m + ln x + 1) (by rw [hm]; exact ln_shl) (by omega)
  have ed : (n : Int).tdiv 32 = (m : Nat) := by rw [hm]; exact (Int.ofNat_tdiv n 32).symm
  have em : IntKind.u64.wrap ((n : Int).tmod 32) = ((s : Nat) : Int) := by
    have e : (n : Int).tmod 32 = ((s : Nat) : Int) := by rw [hs]; exact (Int.ofNat_tmod n 32).symm
    rw [e]
    exact wrap_in (by simp only [InK]; omega)
  have hsb : Nat.beq (s : Int).toNat 32 = false := nbeq_f (by omega)
  have hmb : m ≤ 31250 := by omega
  clear hs hm
  refine fn_spE (C := CX) [] [] [115] tysX_ok mixed Tryz.func172 rfl (by kernel_rfl) Tryz.ntmps172 rfl rfl ?_
  repeat' ((conv => whnf); first | (refine Ob.mk ⟨rfl, by omega, by decide⟩ ?_) | refine Ja ?_)
  refine ⟨⟨Nat, uL, fun _ => 0, m, ed, mk_u32 _, ?_⟩⟩
  repeat' ((conv => whnf); first | refine Ja ?_)
  refine ⟨⟨Nat × Nat × (Nat → Nat), fun (i, l, H) => ⟨[(0, dsA x (ln x)), (1, int .i64 n), (5, .v (.c (.row 0))), (6, int .u64 l), (7, int .i64 i)], [(0, .rw 1 60 false Nat uL H (m + i))], 1⟩, fun (i, l, H) => i ≤ ln x ∧ l = cyF x s i ∧ ∀ j, j < m + i → H j = dg (x * 2 ^ n) j, fun (i, _, _) => ln x - i, ⟨(0, 0, fun _ => 0), [], ⟨Nat.zero_le _, rfl, fun j hj => by rw [dX, if_pos (by omega)]⟩, Ent.g⟩, ?_⟩⟩
  rintro ⟨i, l, H⟩ ⟨hi, hl, hH⟩
  obtain ⟨c1, c2, c3⟩ := cyF_step (x := x) (i := i) hs31
  rw [← hl] at c1 c2 c3
  have dXi : dg (x * 2 ^ n) (m + i) = dg (x * 2 ^ s) i := by rw [dX, if_neg (by omega), Nat.add_sub_cancel_left]
  rw [← dXi] at c1
  have nH : ∀ j, j < m + i + 1 → appZ Nat H (fun _ => dg (x * 2 ^ n) (m + i)) (m + i) j = dg (x * 2 ^ n) j := fun j hj => by
    unfold appZ
    split
    · exact hH j (by assumption)
    · rw [show j = m + i by omega]
  by_cases hc : i < ln x
  · have d0 := dg32 x i
    have hb := shl_bd (dg32 x i) hs31
    have ew : IntKind.u64.wrap ((dg x i : Int) * ((2 ^ s : Nat) : Int)) = ((dg x i * 2 ^ s : Nat) : Int) := by
      rw [← Int.natCast_mul]
      exact wrap_in (by simp only [InK]; omega)
    clear hH hl dX dXi tr ed
    generalize dg x i * 2 ^ s = P at *
    repeat' ((conv => whnf); first | (refine Idx.mk ⟨i, rfl, by omega, ?_⟩) | (refine Ob.mk ⟨Int.natCast_nonneg s, (by show s ≤ 64; omega)⟩ ?_) | (refine WrOb.mk ⟨_, ew, ?_⟩) | (refine WrOb.mk ⟨_, em, ?_⟩) | refine Ja ?_ | refine Jb ?_ | refine Jc ?_ | refine Je ?_ | (rw [hsb]))
    refine ⟨⟨fun _ => dg (x * 2 ^ n) (m + i), one_le (by omega), fun _ _ _ _ => rfl, ?_⟩⟩
    repeat' ((conv => whnf); first | refine Jb ?_)
    exact ⟨(i + 1, (P + l) / 4294967296, _), [.s 0 1], ⟨by omega, c2, nH⟩, by show ln x - (i + 1) < ln x - i; omega, by
      refine ⟨?_, ?_, rfl⟩
      · exact .cons (.refl _) (.cons (.refl _) (.cons (.refl _) (.cons (.int (by omega)) (.cons (.int (by omega)) .nil))))
      · exact .cons rfl (.refl _) .nil⟩
  · obtain rfl : i = ln x := by omega
    have z : dg x (ln x) = 0 := dg_out (Nat.le_refl _)
    rw [z, Nat.zero_mul, Nat.zero_add] at c1 c3
    clear hH hl dX dXi ed c2
    repeat' ((conv => whnf); first | refine Ja ?_ | refine Jc ?_ | refine Jf ?_)
    refine ⟨⟨fun _ => dg (x * 2 ^ n) (m + ln x), one_le (by omega), fun _ _ _ _ => rfl, ?_⟩⟩
    repeat' ((conv => whnf); first | refine Ja ?_ | (refine Sp.callF tr 1 rfl rfl rfl rfl (.cons (.leaf (dsL_le nH)) .nil) rfl ?_))
    refine ⟨⟨_, _, rfl, rfl, ?_⟩⟩
    exact AvLe.refl _
theorem rdivided_lo (a b : Nat) (hb : 0 < b) (ha : ln a ≤ 2) (hb2 : ln b ≤ 2) : Sp CX 161 [dsA a (ln a), dsA b (ln b)] (.tup [.c (dsL (a / b) (ln (a / b))), .c (dsL (a % b) (ln (a % b)))]) := by
  have w1 := rword_sp a ha
  have w2 := rword_sp b hb2
  have a64 := two_lt ha
  have eo := tdivN hb a64
  have eq : (a : Int).tdiv b = ((a / b : Nat) : Int) := (Int.ofNat_tdiv a b).symm
  have er : (a : Int).tmod b = ((a % b : Nat) : Int) := (Int.ofNat_tmod a b).symm
  have k1 := rsplit_sp (a / b) (Nat.lt_of_le_of_lt (Nat.div_le_self _ _) a64)
  have k2 := rsplit_sp (a % b) (Nat.lt_of_le_of_lt (Nat.mod_le _ _) a64)
  refine fn_sp (C := CX) [] [] tysX_ok mixed Tryz.func161 rfl (by kernel_rfl) Tryz.ntmps161 rfl rfl ?_
  repeat' ((conv => whnf); first | (refine Ob.mk eo ?_) | refine Ja ?_ | refine Je ?_ | refine Jy w1 ?_ | refine Jy w2 ?_ | refine Sp.call (k1) (.cons (.int eq) .nil) rfl (AvLe.refl _) ?_ | refine Sp.call (k2) (.cons (.int er) .nil) rfl (AvLe.refl _) ?_)
  refine ⟨⟨_, _, rfl, rfl, ?_⟩⟩
  exact AvLe.refl _
theorem bsz_bd {x : Nat} (h : ln x ≤ 2000) : bsz x ≤ 64000 := by
  unfold bsz
  split
  · omega
  · have d := dg32 x (ln x - 1)
    have := Lib.bitLen_le (dg x (ln x - 1)) 32 (by omega) (by omega)
    omega
theorem bsz_mono {a b : Nat} (ha : a ≠ 0) (hb : b ≠ 0) (h : bsz a < bsz b) : a < b := by
  have h1 := (bsz_spec ha).1
  have h2 := (bsz_spec hb).2
  have h3 : 2 ^ (bsz a + 1) ≤ 2 ^ bsz b := Nat.pow_le_pow_right (by omega) h
  rw [Nat.pow_succ] at h3
  omega
theorem bsz_top {a b : Nat} (ha : a ≠ 0) (hb : b ≠ 0) (h : bsz b ≤ bsz a) : a < b * 2 ^ (bsz a - bsz b + 1) := by
  have h1 := (bsz_spec ha).1
  have h2 := (bsz_spec hb).2
  have e : 2 ^ bsz a = 2 ^ bsz b * 2 ^ (bsz a - bsz b) := by rw [← Nat.pow_add]; congr 1; omega
  have h3 : 2 ^ bsz b * 2 ^ (bsz a - bsz b) ≤ 2 * b * 2 ^ (bsz a - bsz b) := Nat.mul_le_mul_right _ h2
  rw [Nat.pow_succ, ← Nat.mul_assoc, Nat.mul_right_comm, Nat.mul_comm b 2]
  omega
set_option maxHeartbeats 16000000 in
set_option maxRecDepth 20000 in
theorem rdivided_hi (a b : Nat) (hb : 0 < b) (ha : ln a ≤ 2000) (hb2 : ln b ≤ 2000) (hn : ¬ (ln a ≤ 2 ∧ ln b ≤ 2)) : ∃ n, ln (a / b) ≤ n ∧ n ≤ 4000 ∧ Sp CX 161 [dsA a (ln a), dsA b (ln b)] (.tup [.c (dsL (a / b) n), .c (dsL (a % b) (ln (a % b)))]) := by
  have s1 := rBits_sp a (by omega)
  have s2 := rBits_sp b (by omega)
  have b1 := bsz_bd ha
  have b2 := bsz_bd hb2
  have b0 : b ≠ 0 := by omega
  by_cases hs : bsz a < bsz b
  · have hl : a < b := by
      by_cases a0 : a = 0
      · omega
      · exact bsz_mono a0 b0 hs
    refine ⟨0, by rw [Nat.div_eq_of_lt hl]; decide, by omega, ?_⟩
    rw [Nat.div_eq_of_lt hl, Nat.mod_eq_of_lt hl]
    generalize bsz a = X at *
    generalize bsz b = Y at *
    by_cases hn1 : ln a ≤ 2
    · have hn2 : ¬ ln b ≤ 2 := fun x => hn ⟨hn1, x⟩
      refine fn_sp (C := CX) [] [] tysX_ok mixed Tryz.func161 rfl (by kernel_rfl) Tryz.ntmps161 rfl rfl ?_
      repeat' ((conv => whnf); first | refine Jb ?_ | refine Je ?_ | refine Jf ?_ | refine Jy s1 ?_ | refine Jy s2 ?_)
      refine ⟨⟨_, _, rfl, rfl, ?_⟩⟩
      exact .tup (.cons (.leaf .nil) (.cons (.refl _) .nil))
    · refine fn_sp (C := CX) [] [] tysX_ok mixed Tryz.func161 rfl (by kernel_rfl) Tryz.ntmps161 rfl rfl ?_
      repeat' ((conv => whnf); first | refine Jb ?_ | refine Je ?_ | refine Jf ?_ | refine Jy s1 ?_ | refine Jy s2 ?_)
      refine ⟨⟨_, _, rfl, rfl, ?_⟩⟩
      exact .tup (.cons (.leaf .nil) (.cons (.refl _) .nil))
  · have a0 : a ≠ 0 := fun e => by
      have e1 : bsz a = 0 := by rw [e]; rfl
      have := (bsz_spec b0).1
      have e2 : bsz b = 0 := by omega
      rw [e2, Nat.pow_zero] at this
      omega
    have top := bsz_top a0 b0 (by omega)
    obtain ⟨S, hS⟩ : ∃ S, S = bsz a - bsz b := ⟨_, rfl⟩
    rw [← hS] at top
    have qt : a / b < 2 ^ (S + 1) := Nat.div_lt_of_lt_mul top
    have lq : ln (a / b) ≤ S / 32 + 1 := by
      refine ln_le (Nat.lt_of_lt_of_le qt ?_)
      rw [w32_two]
      exact Nat.pow_le_pow_right (by omega) (by omega)
    refine ⟨S / 32 + 1, lq, by omega, ?_⟩
    have hSb : S ≤ 64000 := by omega
    have ed0 : (S : Int).tdiv 32 + 1 = ((S / 32 + 1 : Nat) : Int) := by rw [show (S : Int).tdiv 32 = ((S / 32 : Nat) : Int) from (Int.ofNat_tdiv S 32).symm]; push_cast; rfl
    obtain ⟨X, hX⟩ : ∃ X, X = bsz a := ⟨_, rfl⟩
    obtain ⟨Y, hY⟩ : ∃ Y, Y = bsz b := ⟨_, rfl⟩
    rw [← hX] at s1 b1 hs hS
    rw [← hY] at s2 b2 hs hS
    have hS2 : (X : Int) - Y = (S : Nat) := by omega
    have ed1 : ((X : Int) - Y).tdiv 32 + 1 = ((S / 32 + 1 : Nat) : Int) := by rw [hS2]; exact ed0
    clear hX hY
    have bb : ∀ k, k ≤ S → ln (b * 2 ^ k) ≤ 100000 := fun k hk => by have := ln_shl (x := b) (n := k); omega
    have rb : ∀ K, ln (a % (b * 2 ^ K)) ≤ 2000 := fun K => Nat.le_trans (ln_mono (Nat.mod_le _ _)) ha
    by_cases hn1 : ln a ≤ 2
    · have hn2 : ¬ ln b ≤ 2 := fun x => hn ⟨hn1, x⟩
      refine fn_spE (C := CX) [] [0] [] tysX_ok mixed Tryz.func161 rfl (by kernel_rfl) Tryz.ntmps161 rfl rfl ?_
      repeat' ((conv => whnf); first | (refine Ob.mk ⟨rfl, by omega, by decide⟩ ?_) | refine Ja ?_ | refine Jb ?_ | refine Je ?_ | refine Jf ?_ | refine Jy s1 ?_ | refine Jy s2 ?_)
      refine ⟨⟨Nat, uL, fun _ => 0, S / 32 + 1, ed1, mk_u32 _, ?_⟩⟩
      repeat' ((conv => whnf); first | refine Ja ?_)
      refine ⟨⟨Int × Nat × Nat × (Nat → Nat), fun (i, r, A, H) => ⟨[(1, dsA b (ln b)), (6, dsA r (ln r)), (8, .v (.c (.row 0))), (9, int .i64 i)], [(0, .rw 1 60 false Nat uL H (S / 32 + 1))], 1⟩, fun (i, r, A, H) => -1 ≤ i ∧ i ≤ S ∧ BdI a b (i + 1).toNat r A ∧ ∀ j, j < S / 32 + 1 → H j = dg A j, fun (i, _, _, _) => (i + 1).toNat, ⟨(S, a, 0, fun _ => 0), [], ⟨by omega, by omega, by rw [show ((S : Int) + 1).toNat = S + 1 by omega]; exact BdI.start top, fun j _ => by unfold dg; rw [Nat.zero_div, Nat.zero_mod]⟩, ?_⟩, ?_⟩⟩
      · refine ⟨?_, ?_, rfl⟩
        · exact .cons (.refl _) (.cons (.refl _) (.cons (.refl _) (.cons (.int (by omega)) .nil)))
        · exact .cons rfl (.refl _) .nil
      rintro ⟨i, r, A, H⟩ ⟨i1, i2, hI, hH⟩
      by_cases hi : 0 ≤ i
      · obtain ⟨k, hk⟩ : ∃ k : Nat, i = k := ⟨i.toNat, by omega⟩
        rw [show (i + 1).toNat = k + 1 by omega] at hI
        have lr : ln r ≤ 2000 := by rw [hI.r]; exact rb _
        have sh := rshifted_sp b k (by omega) (by omega)
        have lt := bb k (by omega)
        have bl := below_sp r (b * 2 ^ k) (by omega)
        by_cases hc : r < b * 2 ^ k
        · have nI := hI.lo hb hc
          rw [decide_eq_true hc] at bl
          clear hI top qt lq bb rb
          generalize b * 2 ^ k = t at *
          repeat' ((conv => whnf); first | refine Jb ?_ | refine Je ?_ | refine Jf ?_ | refine Sp.call (sh) (.cons (.refl _) (.cons (.int hk) .nil)) rfl (AvLe.refl _) ?_ | refine Jy bl ?_)
          exact ⟨(i - 1, r, A, H), [], ⟨by omega, by omega, by rw [show (i - 1 + 1).toNat = k by omega]; exact nI, hH⟩, by show (i - 1 + 1).toNat < (i + 1).toNat; omega, Ent.g⟩
        · obtain ⟨nI, hd⟩ := hI.hi hb hc
          obtain ⟨db, dl⟩ := dg_bit hd
          rw [decide_eq_false hc] at bl
          have mn := rminus_sp r (b * 2 ^ k) (by omega) (by omega)
          have tr := rtrim_sp (r - b * 2 ^ k) (ln r) (ln_mono (Nat.sub_le _ _)) (by omega)
          have kl : k / 32 < S / 32 + 1 := by omega
          have ed : i.tdiv 32 = ((k / 32 : Nat) : Int) := by rw [hk]; exact (Int.ofNat_tdiv k 32).symm
          have em : IntKind.u64.wrap (i.tmod 32) = ((k % 32 : Nat) : Int) := by
            have e : i.tmod 32 = ((k % 32 : Nat) : Int) := by rw [hk]; exact (Int.ofNat_tmod k 32).symm
            rw [e]
            exact wrap_in (by simp only [InK]; omega)
          have hsb : Nat.beq ((k % 32 : Nat) : Int).toNat 32 = false := nbeq_f (by omega)
          have e1 : IntKind.u32.wrap (1 * ((2 ^ (k % 32) : Nat) : Int)) = ((2 ^ (k % 32) : Nat) : Int) := by
            have pb : 2 ^ (k % 32) < 4294967296 := Nat.lt_of_le_of_lt (Nat.le_add_left _ _) dl
            rw [Int.one_mul]
            generalize 2 ^ (k % 32) = P at *
            exact wrap_in (by show (0 : Int) ≤ _ ∧ _ ≤ (4294967295 : Int); omega)
          have pp : 0 < 2 ^ (k % 32) := Nat.pow_pos (by omega)
          have hH0 := hH (k / 32) kl
          have nH : ∀ j, j < S / 32 + 1 → setZ Nat H (k / 32) (dg A (k / 32) + 2 ^ (k % 32)) j = dg (A + 2 ^ k) j := fun j hj => by
            rw [db]
            unfold setZ
            by_cases e : j = k / 32
            · rw [if_pos e, if_pos e, e]
            · rw [if_neg e, if_neg e]
              exact hH j hj
          clear hI top qt lq bb rb db hd hH
          generalize b * 2 ^ k = t at *
          repeat' ((conv => whnf); first | (refine Idx.mk ⟨k / 32, ed, kl, ?_⟩) | (refine Ob.mk ⟨Int.natCast_nonneg _, (by show k % 32 ≤ 32; omega)⟩ ?_) | (refine WrOb.mk ⟨_, e1, ?_⟩) | (refine WrOb.mk ⟨_, em, ?_⟩) | refine Ja ?_ | refine Jb ?_ | refine Je ?_ | refine Sp.call (sh) (.cons (.refl _) (.cons (.int hk) .nil)) rfl (AvLe.refl _) ?_ | refine Jy bl ?_ | refine Jy mn ?_ | refine Jy tr ?_ | (rw [hsb]))
          refine ⟨⟨dg A (k / 32) + 2 ^ (k % 32), congrArg (fun q => [Leaf.x (.int .u32 q)]) (by rw [hH0]; exact (Int.natCast_add _ _).symm), ?_⟩⟩
          repeat' ((conv => whnf); first | refine Jb ?_)
          exact ⟨(i - 1, r - t, A + 2 ^ k, _), [], ⟨by omega, by omega, by rw [show (i - 1 + 1).toNat = k by omega]; exact nI, nH⟩, by show (i - 1 + 1).toNat < (i + 1).toNat; omega, Ent.g⟩
      · rw [show (i + 1).toNat = 0 by omega] at hI
        obtain ⟨e1, e2⟩ := hI.fin
        subst e1 e2
        clear hI top qt lq bb rb
        repeat' ((conv => whnf); first | refine Jf ?_)
        refine ⟨⟨_, _, rfl, rfl, ?_⟩⟩
        exact .tup (.cons (.leaf (dsL_le hH)) (.cons (.refl _) .nil))
    · refine fn_spE (C := CX) [] [0] [] tysX_ok mixed Tryz.func161 rfl (by kernel_rfl) Tryz.ntmps161 rfl rfl ?_
      repeat' ((conv => whnf); first | (refine Ob.mk ⟨rfl, by omega, by decide⟩ ?_) | refine Ja ?_ | refine Jb ?_ | refine Jf ?_ | refine Jy s1 ?_ | refine Jy s2 ?_)
      refine ⟨⟨Nat, uL, fun _ => 0, S / 32 + 1, ed1, mk_u32 _, ?_⟩⟩
      repeat' ((conv => whnf); first | refine Ja ?_)
      refine ⟨⟨Int × Nat × Nat × (Nat → Nat), fun (i, r, A, H) => ⟨[(1, dsA b (ln b)), (6, dsA r (ln r)), (8, .v (.c (.row 0))), (9, int .i64 i)], [(0, .rw 1 60 false Nat uL H (S / 32 + 1))], 1⟩, fun (i, r, A, H) => -1 ≤ i ∧ i ≤ S ∧ BdI a b (i + 1).toNat r A ∧ ∀ j, j < S / 32 + 1 → H j = dg A j, fun (i, _, _, _) => (i + 1).toNat, ⟨(S, a, 0, fun _ => 0), [], ⟨by omega, by omega, by rw [show ((S : Int) + 1).toNat = S + 1 by omega]; exact BdI.start top, fun j _ => by unfold dg; rw [Nat.zero_div, Nat.zero_mod]⟩, ?_⟩, ?_⟩⟩
      · refine ⟨?_, ?_, rfl⟩
        · exact .cons (.refl _) (.cons (.refl _) (.cons (.refl _) (.cons (.int (by omega)) .nil)))
        · exact .cons rfl (.refl _) .nil
      rintro ⟨i, r, A, H⟩ ⟨i1, i2, hI, hH⟩
      by_cases hi : 0 ≤ i
      · obtain ⟨k, hk⟩ : ∃ k : Nat, i = k := ⟨i.toNat, by omega⟩
        rw [show (i + 1).toNat = k + 1 by omega] at hI
        have lr : ln r ≤ 2000 := by rw [hI.r]; exact rb _
        have sh := rshifted_sp b k (by omega) (by omega)
        have lt := bb k (by omega)
        have bl := below_sp r (b * 2 ^ k) (by omega)
        by_cases hc : r < b * 2 ^ k
        · have nI := hI.lo hb hc
          rw [decide_eq_true hc] at bl
          clear hI top qt lq bb rb
          generalize b * 2 ^ k = t at *
          repeat' ((conv => whnf); first | refine Jb ?_ | refine Je ?_ | refine Jf ?_ | refine Sp.call (sh) (.cons (.refl _) (.cons (.int hk) .nil)) rfl (AvLe.refl _) ?_ | refine Jy bl ?_)
          exact ⟨(i - 1, r, A, H), [], ⟨by omega, by omega, by rw [show (i - 1 + 1).toNat = k by omega]; exact nI, hH⟩, by show (i - 1 + 1).toNat < (i + 1).toNat; omega, Ent.g⟩
        · obtain ⟨nI, hd⟩ := hI.hi hb hc
          obtain ⟨db, dl⟩ := dg_bit hd
          rw [decide_eq_false hc] at bl
          have mn := rminus_sp r (b * 2 ^ k) (by omega) (by omega)
          have tr := rtrim_sp (r - b * 2 ^ k) (ln r) (ln_mono (Nat.sub_le _ _)) (by omega)
          have kl : k / 32 < S / 32 + 1 := by omega
          have ed : i.tdiv 32 = ((k / 32 : Nat) : Int) := by rw [hk]; exact (Int.ofNat_tdiv k 32).symm
          have em : IntKind.u64.wrap (i.tmod 32) = ((k % 32 : Nat) : Int) := by
            have e : i.tmod 32 = ((k % 32 : Nat) : Int) := by rw [hk]; exact (Int.ofNat_tmod k 32).symm
            rw [e]
            exact wrap_in (by simp only [InK]; omega)
          have hsb : Nat.beq ((k % 32 : Nat) : Int).toNat 32 = false := nbeq_f (by omega)
          have e1 : IntKind.u32.wrap (1 * ((2 ^ (k % 32) : Nat) : Int)) = ((2 ^ (k % 32) : Nat) : Int) := by
            have pb : 2 ^ (k % 32) < 4294967296 := Nat.lt_of_le_of_lt (Nat.le_add_left _ _) dl
            rw [Int.one_mul]
            generalize 2 ^ (k % 32) = P at *
            exact wrap_in (by show (0 : Int) ≤ _ ∧ _ ≤ (4294967295 : Int); omega)
          have pp : 0 < 2 ^ (k % 32) := Nat.pow_pos (by omega)
          have hH0 := hH (k / 32) kl
          have nH : ∀ j, j < S / 32 + 1 → setZ Nat H (k / 32) (dg A (k / 32) + 2 ^ (k % 32)) j = dg (A + 2 ^ k) j := fun j hj => by
            rw [db]
            unfold setZ
            by_cases e : j = k / 32
            · rw [if_pos e, if_pos e, e]
            · rw [if_neg e, if_neg e]
              exact hH j hj
          clear hI top qt lq bb rb db hd hH
          generalize b * 2 ^ k = t at *
          repeat' ((conv => whnf); first | (refine Idx.mk ⟨k / 32, ed, kl, ?_⟩) | (refine Ob.mk ⟨Int.natCast_nonneg _, (by show k % 32 ≤ 32; omega)⟩ ?_) | (refine WrOb.mk ⟨_, e1, ?_⟩) | (refine WrOb.mk ⟨_, em, ?_⟩) | refine Ja ?_ | refine Jb ?_ | refine Je ?_ | refine Sp.call (sh) (.cons (.refl _) (.cons (.int hk) .nil)) rfl (AvLe.refl _) ?_ | refine Jy bl ?_ | refine Jy mn ?_ | refine Jy tr ?_ | (rw [hsb]))
          refine ⟨⟨dg A (k / 32) + 2 ^ (k % 32), congrArg (fun q => [Leaf.x (.int .u32 q)]) (by rw [hH0]; exact (Int.natCast_add _ _).symm), ?_⟩⟩
          repeat' ((conv => whnf); first | refine Jb ?_)
          exact ⟨(i - 1, r - t, A + 2 ^ k, _), [], ⟨by omega, by omega, by rw [show (i - 1 + 1).toNat = k by omega]; exact nI, nH⟩, by show (i - 1 + 1).toNat < (i + 1).toNat; omega, Ent.g⟩
      · rw [show (i + 1).toNat = 0 by omega] at hI
        obtain ⟨e1, e2⟩ := hI.fin
        subst e1 e2
        clear hI top qt lq bb rb
        repeat' ((conv => whnf); first | refine Jf ?_)
        refine ⟨⟨_, _, rfl, rfl, ?_⟩⟩
        exact .tup (.cons (.leaf (dsL_le hH)) (.cons (.refl _) .nil))
end Go.Proofs.YtdjfndfkjbjcpaaGreatDoor

/- Bigints and fractions of the reference in letters: Euclid, Divided, Gcd, Over, Add, Sub, Mul. -/
namespace Go.Proofs.YtdjfndfkjbjcpaaGreatDoor
open Go Go.RowKit Go.VG HP
theorem rdivided_sp (a b : Nat) (hb : 0 < b) (ha : ln a ≤ 2000) (hb2 : ln b ≤ 2000) : ∃ n, ln (a / b) ≤ n ∧ n ≤ 4000 ∧ Sp CX 161 [dsA a (ln a), dsA b (ln b)] (.tup [.c (dsL (a / b) n), .c (dsL (a % b) (ln (a % b)))]) := by
  by_cases h : ln a ≤ 2 ∧ ln b ≤ 2
  · exact ⟨ln (a / b), Nat.le_refl _, by have := ln_mono (Nat.div_le_self a b); omega, rdivided_lo a b hb h.1 h.2⟩
  · exact rdivided_hi a b hb ha hb2 h
set_option maxHeartbeats 4000000 in
theorem rEuclid_sp (a : Int) (b : Nat) (hb : 0 < b) (ha : ln a.natAbs ≤ 2000) (hb2 : ln b ≤ 2000) (h : 0 ≤ a ∨ (b : Int) ∣ a) : Sp CX 143 [zA a, zA (b : Int)] (.tup [zV (a / b), zV (a % b)]) := by
  have n1 := rNorm_z a (by omega)
  have n2 := rNorm_z (b : Int) (by rw [Int.natAbs_natCast]; omega)
  obtain ⟨n, q1, q2, dv⟩ := rdivided_sp a.natAbs b hb ha hb2
  have lm := ln_mono (Nat.mod_le a.natAbs b)
  have s1 := rsigned_sp false (a.natAbs % b) (ln (a.natAbs % b)) (Nat.le_refl _) (by omega)
  have s2 := rsigned_sp (!(decide (a < 0) == decide ((b : Int) < 0))) (a.natAbs / b) n q1 (by omega)
  have hbn : decide ((b : Int) < 0) = false := decide_eq_false (by omega)
  rw [zS_eq, if_neg (by decide)] at s1
  rw [zS_eq] at s2
  by_cases h0 : a < 0
  · have hd : (b : Int) ∣ a := by omega
    have hm : a.natAbs % b = 0 := Nat.mod_eq_zero_of_dvd (Int.natCast_dvd_natCast.1 (by rw [Int.dvd_natAbs]; exact hd))
    have e1 : a % (b : Int) = 0 := Int.emod_eq_zero_of_dvd hd
    have e2 : (if (!(decide (a < 0) == decide ((b : Int) < 0))) = true then -((a.natAbs / b : Nat) : Int) else ((a.natAbs / b : Nat) : Int)) = a / (b : Int) := by
      rw [hbn, decide_eq_true h0, if_pos (by decide)]
      have := (dm_even (x := a.natAbs) (y := b) hm).1
      rw [show -((a.natAbs : Nat) : Int) = a by omega] at this
      exact this.symm
    rw [e2] at s2
    rw [e1]
    rw [hm] at s1 dv
    have l0 : ln 0 = 0 := ln_zero
    refine fn_sp (C := CX) [] [] tysX_ok mixed Tryz.func143 rfl (by kernel_rfl) Tryz.ntmps143 rfl rfl ?_
    repeat' ((conv => whnf); first | refine Je ?_ | refine Jf ?_ | refine Ji ?_ | refine Jk rfl ?_ | refine Jl ?_ | refine Jo ?_ | refine Jq rfl ?_ | refine Jr ?_ | refine Js ?_ | refine Jt rfl ?_ | refine Ju ?_ | refine Jv ?_ | refine Jy n1 ?_ | refine Jy n2 ?_ | refine Jy dv ?_ | refine Jy s1 ?_ | refine Jy s2 ?_)
    refine ⟨⟨_, _, rfl, rfl, ?_⟩⟩
    exact AvLe.refl _
  · have e1 : a % (b : Int) = ((a.natAbs % b : Nat) : Int) := by
      rw [show a = (a.natAbs : Int) by omega, Int.natAbs_natCast, Int.natCast_emod]
    have e2 : (if (!(decide (a < 0) == decide ((b : Int) < 0))) = true then -((a.natAbs / b : Nat) : Int) else ((a.natAbs / b : Nat) : Int)) = a / (b : Int) := by
      rw [hbn, decide_eq_false h0, if_neg (by decide)]
      conv => rhs; rw [show a = (a.natAbs : Int) by omega]
      rw [Int.natCast_ediv]
    rw [e2] at s2
    rw [e1]
    refine fn_sp (C := CX) [] [] tysX_ok mixed Tryz.func143 rfl (by kernel_rfl) Tryz.ntmps143 rfl rfl ?_
    repeat' ((conv => whnf); first | refine Jf ?_ | refine Ji ?_ | refine Jk rfl ?_ | refine Jl ?_ | refine Jo ?_ | refine Jq rfl ?_ | refine Jr ?_ | refine Js ?_ | refine Jt rfl ?_ | refine Ju ?_ | refine Jv ?_ | refine Jy n1 ?_ | refine Jy n2 ?_ | refine Jy dv ?_ | refine Jy s1 ?_ | refine Jy s2 ?_)
    refine ⟨⟨_, _, rfl, rfl, ?_⟩⟩
    exact AvLe.refl _
theorem rDivided_sp (a : Int) (b : Nat) (hb : 0 < b) (ha : ln a.natAbs ≤ 2000) (hb2 : ln b ≤ 2000) (h : (b : Int) ∣ a) : Sp CX 110 [zA a, zA (b : Int)] (zA (a / b)) := by
  have e := rEuclid_sp a b hb ha hb2 (.inr h)
  generalize a / (b : Int) = q at *
  generalize a % (b : Int) = r at *
  refine fn_sp (C := CX) [] [] tysX_ok mixed Tryz.func110 rfl (by kernel_rfl) Tryz.ntmps110 rfl rfl ?_
  repeat' ((conv => whnf); first | refine Ja ?_ | refine Jy e ?_)
  refine ⟨⟨_, _, rfl, rfl, ?_⟩⟩
  exact AvLe.refl _
end Go.Proofs.YtdjfndfkjbjcpaaGreatDoor

