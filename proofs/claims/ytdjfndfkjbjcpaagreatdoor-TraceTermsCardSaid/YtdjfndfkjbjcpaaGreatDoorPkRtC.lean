/- Own texts joined: RtC, TrG. -/
import Derived.Test.YtdjfndfkjbjcpaaGreatDoorPkRtA
import Derived.Test.YtdjfndfkjbjcpaaGreatDoorPkTrA
import Derived.Test.YtdjfndfkjbjcpaaGreatDoorAriO
/- Fractions in letters: Quo; sizes of twelfths. -/
namespace HP
theorem rat_div {a b : Rat} : a / b = Rat.divInt (a.num * b.den) (a.den * b.num) := by
  have ha : a = (a.num : Rat) / ((a.den : Int) : Rat) := by rw [← divInt_div, Rat.num_divInt_den]
  have hb : b = (b.num : Rat) / ((b.den : Int) : Rat) := by rw [← divInt_div, Rat.num_divInt_den]
  rw [divInt_div, Rat.intCast_mul, Rat.intCast_mul]
  have d1 : ((a.den : Int) : Rat) ≠ 0 := by
    intro h
    have := a.den_nz
    have h2 : (a.den : Int) = 0 := Rat.intCast_eq_zero_iff.1 h
    omega
  have d2 : ((b.den : Int) : Rat) ≠ 0 := by
    intro h
    have := b.den_nz
    have h2 : (b.den : Int) = 0 := Rat.intCast_eq_zero_iff.1 h
    omega
  generalize ((a.den : Int) : Rat) = x at *
  generalize ((b.den : Int) : Rat) = y at *
  generalize (a.num : Rat) = u at *
  generalize (b.num : Rat) = v at *
  subst ha hb
  by_cases hv : v = 0
  · subst hv
    simp [Rat.div_def]
  · grind
end HP
namespace Go.Proofs.YtdjfndfkjbjcpaaGreatDoor
open Go Go.RowKit Go.VG HP
theorem sx_QB {z : Int} {k : Nat} (h : ln z.natAbs ≤ k) (hk : 2 ≤ k) : QB k (sx z) := by
  have e : sx z = Rat.divInt z 6 := (divInt_div z 6).symm
  rw [e]
  exact QB.divInt (by omega) h (Nat.le_trans (ln_two (N := 6) (by omega)) hk)
theorem tw_QB {z : Int} {k : Nat} (h : ln z.natAbs ≤ k) (hk : 2 ≤ k) : QB k (tw z) := by
  have e : tw z = Rat.divInt z 12 := (divInt_div z 12).symm
  rw [e]
  exact QB.divInt (by omega) h (Nat.le_trans (ln_two (N := 12) (by omega)) hk)
theorem RQuo_sp (a b : Rat) (h0 : b.num ≠ 0) (ha : QB 40000 a) (hb : QB 40000 b) : Sp CX 87 [qA a, qA b] (.tup [qV (a / b), .c (ix 0)]) := by
  have a1 := ha.1; have a2 := ha.2; have b1 := hb.1; have b2 := hb.2
  have s := RSign_sp b (hb.mono (by omega))
  have e : ¬ b.num.sign = 0 := fun h => h0 (Int.sign_eq_zero_iff_zero.1 h)
  have m1 := BMul_sp a.num b.den (by omega) (by show ln b.den ≤ _; omega)
  have m3 := BMul_sp a.den b.num (by show ln a.den ≤ _; omega) (by omega)
  have l1 : ln (a.num * b.den).natAbs ≤ 80000 := by
    rw [Int.natAbs_mul]
    have := ln_mul a.num.natAbs b.den
    show ln (a.num.natAbs * b.den) ≤ _
    omega
  have l3 : ln ((a.den : Int) * b.num).natAbs ≤ 80000 := by
    rw [Int.natAbs_mul]
    have := ln_mul a.den b.num.natAbs
    show ln (a.den * b.num.natAbs) ≤ _
    omega
  have o := over_sp (a.num * b.den) ((a.den : Int) * b.num) (by omega) (by omega)
  rw [← rat_div] at o
  generalize b.num.sign = z at *
  refine fn_sp (C := CX) [] [] tysX_ok mixed Tryz.func87 rfl (by kernel_rfl) Tryz.ntmps87 rfl rfl ?_
  repeat' ((conv => whnf); first | refine Jf ?_ | refine Ji ?_ | refine Jj ?_ | refine Jk rfl ?_ | refine Jy s ?_ | refine Jy m1 ?_ | refine Jy m3 ?_ | refine Jy o ?_)
  refine ⟨⟨_, _, rfl, rfl, ?_⟩⟩
  exact AvLe.refl _
end Go.Proofs.YtdjfndfkjbjcpaaGreatDoor

/- Bigints and fractions in letters: Bits, Pow of small numbers. -/
namespace HP
theorem bit_and1 {x : Nat} (h : x < 9223372036854775808) : Go.VG.bitz .i64 .and (x : Int) 1 = ((x % 2 : Nat) : Int) := by
  show Go.IntKind.i64.wrap (((BitVec.ofInt 64 (x : Int) &&& BitVec.ofInt 64 ((1 : Nat) : Int)).toNat : Nat) : Int) = _
  rw [BitVec.toNat_and, BitVec.ofInt_natCast, BitVec.ofInt_natCast, BitVec.toNat_ofNat, BitVec.toNat_ofNat, Nat.mod_eq_of_lt (by omega), show 1 % 2 ^ 64 = 1 by decide, Nat.and_one_is_mod]
  exact Go.VG.wrap_in (by show -9223372036854775808 ≤ ((x % 2 : Nat) : Int) ∧ ((x % 2 : Nat) : Int) ≤ 9223372036854775807; omega)
theorem pow_half {a : Int} {E i : Nat} : a ^ (E / 2 ^ (i + 1)) * a ^ (E / 2 ^ (i + 1)) * (if E / 2 ^ i % 2 = 1 then a else 1) = a ^ (E / 2 ^ i) := by
  have e : E / 2 ^ (i + 1) = E / 2 ^ i / 2 := by rw [Nat.pow_succ, Nat.div_div_eq_div_mul]
  rw [e]
  generalize E / 2 ^ i = q
  rw [← Int.pow_add]
  by_cases h : q % 2 = 1
  · rw [if_pos h, ← Int.pow_succ]
    congr 1
    omega
  · rw [if_neg h, Int.mul_one]
    congr 1
    omega
theorem pow_tiny {a : Int} (h : a.natAbs ≤ 1) {n : Nat} : a ^ (min n (2 + n % 2)) = a ^ n := by
  by_cases hn : n ≤ 2
  · rw [Nat.min_eq_left (by omega)]
  · rw [Nat.min_eq_right (by omega)]
    rcases (show a = 0 ∨ a = 1 ∨ a = -1 by omega) with rfl | rfl | rfl
    · rw [Int.zero_pow (by omega), Int.zero_pow (by omega)]
    · rw [Int.one_pow, Int.one_pow]
    · have key : ∀ m : Nat, (-1 : Int) ^ (2 * m) = 1 := fun m => by
        rw [Int.pow_mul]
        show ((-1 : Int) ^ 2) ^ m = 1
        rw [show (-1 : Int) ^ 2 = 1 by decide, Int.one_pow]
      rcases (show n % 2 = 0 ∨ n % 2 = 1 by omega) with e | e
      · rw [e]
        have k1 := key (n / 2)
        have e2 : 2 * (n / 2) = n := by omega
        rw [e2] at k1
        rw [k1]; rfl
      · rw [e]
        have k1 := key (n / 2)
        have e2 : n = 2 * (n / 2) + 1 := by omega
        have e3 : (-1 : Int) ^ n = -1 := by
          rw [e2, Int.pow_succ, k1]; rfl
        rw [e3]; rfl
def bsz (x : Nat) : Nat := if ln x = 0 then 0 else 32 * (ln x - 1) + Go.Lib.bitLen (dg x (ln x - 1))
theorem bsz_le {x : Nat} (h : ln x ≤ 1) : bsz x ≤ 32 := by
  unfold bsz
  split
  · omega
  · have h2 : dg x (ln x - 1) < 4294967296 := dg_lt x _
    have := Go.Lib.bitLen_le (dg x (ln x - 1)) 32 (by omega) (by omega)
    omega
end HP
namespace Go.Proofs.YtdjfndfkjbjcpaaGreatDoor
open Go Go.RowKit Go.VG HP
theorem ln_pow {a : Int} (h : ln a.natAbs ≤ 1) : ∀ n : Nat, ln (a ^ n).natAbs ≤ n + 1
  | 0 => by rw [Int.pow_zero]; decide
  | n + 1 => by
    have ih := ln_pow h n
    rw [Int.pow_succ, Int.natAbs_mul]
    have := ln_mul (a ^ n).natAbs a.natAbs
    omega
theorem bsz_tiny {x : Nat} (h : ln x ≤ 1) (hb : bsz x ≤ 1) : x ≤ 1 := by
  unfold bsz at hb
  by_cases h0 : ln x = 0
  · have := (len_ln x).zero_iff.1 h0
    omega
  · rw [if_neg h0] at hb
    have h1 : ln x = 1 := by omega
    have o : dg x 0 = x ∧ x < 4294967296 := by
      have hx : x < W32 ^ 1 := h1 ▸ lt_ln x
      rw [Nat.pow_one] at hx
      exact ⟨by unfold dg; rw [Nat.pow_zero, Nat.div_one]; exact Nat.mod_eq_of_lt hx, hx⟩
    rw [h1, show 1 - 1 = 0 from rfl, o.1] at hb
    have h3 := lt_bitLenAux 64 x (by omega)
    have e : Go.Lib.bitLen x = Go.Lib.bitLenAux 64 x := rfl
    rw [e] at hb
    have h4 : 2 ^ Go.Lib.bitLenAux 64 x ≤ 2 ^ 1 := Nat.pow_le_pow_right (by omega) (by omega)
    omega
theorem Len_sp (x : Nat) (h : x < 18446744073709551616) : Sp CX 93 [int .u64 x] (int .i64 (Lib.bitLen x)) :=
  .of_val (vs0 := [.int .u64 x]) (callOk Tryz.func93 (by kernel_rfl) (by kernel_rfl)) rfl (fun _ _ _ h => argsX h) (fun _ _ => ⟨rfl, rfl⟩) fun w _ => (len_any x w (by omega) (by omega)).mono fun _ _ ⟨h, e⟩ => ⟨h, e ▸ Below.refl _ _⟩
theorem Len32_sp (x : Nat) (hx : x < 4294967296) : Sp CX 128 [int .u32 x] (int .i64 (Lib.bitLen x)) :=
    .of_val (vs0 := [.int .u32 x]) (callOk Tryz.func128 (by kernel_rfl) (by kernel_rfl)) rfl (fun _ _ _ h => argsX h) (fun _ _ => ⟨rfl, rfl⟩) fun w _ => (Tryz.bits_Len32 x w (by omega) (by omega)).mono fun _ _ ⟨h, e⟩ => ⟨by rw [h]; simp, e ▸ Below.refl _ _⟩
theorem Bits_sp (a : Int) (h : ln a.natAbs ≤ 1000000) : Sp CX 92 [zA a] (int .i64 (bsz a.natAbs)) := by
  have t := trimmed_sp a.natAbs (ln a.natAbs) (Nat.le_refl _) (by omega)
  unfold bsz
  by_cases h0 : ln a.natAbs = 0
  · rw [if_pos h0]
    refine fn_sp (C := CX) [] [] tysX_ok mixed Tryz.func92 rfl (by kernel_rfl) Tryz.ntmps92 rfl rfl ?_
    repeat' ((conv => whnf); first | refine Je ?_ | refine Jy t ?_)
    refine ⟨⟨_, _, rfl, rfl, ?_⟩⟩
    exact AvLe.refl _
  · rw [if_neg h0]
    have s := Len32_sp (dg a.natAbs (ln a.natAbs - 1)) (dg32 _ _)
    have hb := Lib.bitLen_le (dg a.natAbs (ln a.natAbs - 1)) 32 (by omega) (by have : dg a.natAbs (ln a.natAbs - 1) < 4294967296 := dg32 a.natAbs (ln a.natAbs - 1); omega)
    generalize Lib.bitLen (dg a.natAbs (ln a.natAbs - 1)) = B at *
    refine fn_sp (C := CX) [] [] tysX_ok mixed Tryz.func92 rfl (by kernel_rfl) Tryz.ntmps92 rfl rfl ?_
    repeat' ((conv => whnf); first | (refine Idx.mk ⟨ln a.natAbs - 1, by omega, by omega, ?_⟩) | refine Jb ?_ | refine Jf ?_ | refine Jy t ?_ | refine Jy s ?_)
    refine ⟨⟨_, _, rfl, rfl, ?_⟩⟩
    exact .int (by omega)
theorem pow_bit {E j : Nat} (hE : E ≤ 64) : bitz .i64 .and ((E : Int) / ((2 ^ j : Nat) : Int)) 1 = ((E / 2 ^ j % 2 : Nat) : Int) := by
  rw [← Int.natCast_ediv]
  exact bit_and1 (by have := Nat.div_le_self E (2 ^ j); omega)
theorem pow_next {a o : Int} {E : Nat} {i : Int} (h : 0 ≤ i) (ho : o = a ^ (E / 2 ^ (i + 1).toNat)) : (E / 2 ^ i.toNat % 2 = 1 → o * o * a = a ^ (E / 2 ^ (i - 1 + 1).toNat)) ∧ (E / 2 ^ i.toNat % 2 = 0 → o * o = a ^ (E / 2 ^ (i - 1 + 1).toNat)) := by
  have e1 : (i + 1).toNat = i.toNat + 1 := by omega
  have e2 : (i - 1 + 1).toNat = i.toNat := by omega
  rw [e1] at ho
  rw [e2, ho]
  have := pow_half (a := a) (E := E) (i := i.toNat)
  refine ⟨fun h => ?_, fun h => ?_⟩
  · rw [if_pos h] at this; exact this
  · rw [if_neg (by omega), Int.mul_one] at this; exact this
set_option maxHeartbeats 8000000 in
set_option maxRecDepth 20000 in
theorem BPow_sp (a : Int) (n : Nat) (ha : ln a.natAbs ≤ 1) (hn : n ≤ 64) : Sp CX 48 [zA a, int .i64 n] (.tup [zV (a ^ n), .c (ix 0)]) := by
  have b := Bits_sp a (by omega)
  have bl := bsz_le ha
  have bt := fun h => bsz_tiny ha h
  generalize bsz a.natAbs = B at *
  have o1 := Of_sp 1 (by omega) (by omega)
  have fin : ∀ E : Nat, E ≤ 64 → Sp CX 93 [int .u64 E] (int .i64 (Lib.bitLen E)) ∧ Lib.bitLen E ≤ 7 ∧ a ^ (E / 2 ^ Lib.bitLen E) = 1 := fun E hE => by
    refine ⟨Len_sp E (by omega), Lib.bitLen_le E 7 (by omega) (by omega), ?_⟩
    have h3 := lt_bitLenAux 64 E (by omega)
    have e : Lib.bitLen E = Lib.bitLenAux 64 E := rfl
    rw [e, Nat.div_eq_of_lt h3, Int.pow_zero]
  have mls : ∀ m : Nat, m ≤ 64 → ln (a ^ m).natAbs ≤ 1000 := fun m hm => by have := ln_pow ha m; omega
  have dls : ∀ E j : Nat, E ≤ 64 → E / 2 ^ j ≤ 64 := fun E j h => Nat.le_trans (Nat.div_le_self _ _) h
  by_cases hB : B ≤ 1
  · have hp := pow_tiny (n := n) (bt hB)
    obtain ⟨E, hE⟩ : ∃ E, E = min n (2 + n % 2) := ⟨_, rfl⟩
    have El : E ≤ 64 := by omega
    rw [← hE] at hp
    rw [← hp]
    obtain ⟨s1, s2, s3⟩ := fin E El
    have em : (n : Int).tmod 2 = ((n % 2 : Nat) : Int) := (Int.ofNat_tmod n 2).symm
    generalize Lib.bitLen E = L at *
    clear bt fin hp
    refine fn_sp (C := CX) [] [] tysX_ok mixed Tryz.func48 rfl (by kernel_rfl) Tryz.ntmps48 rfl rfl ?_
    repeat' ((conv => whnf); first | refine Ja ?_ | refine Jb ?_ | refine Jd ?_ | refine Je ?_ | refine Jf ?_ | refine Jy b ?_ | refine Jy o1 ?_ | refine Sp.call (s1) (.cons (.int (by show (if (2 : Int) + (n : Int).tmod 2 < n then (2 : Int) + (n : Int).tmod 2 else n) % 18446744073709551616 = E; split <;> omega)) .nil) rfl (AvLe.refl _) ?_)
    refine ⟨⟨Int × Int, fun (i, o) => ⟨[(1, int .i64 E), (2, .v (.c (.loc 0 0))), (4, .v (.c (.loc 1 0))), (7, .v (.c (.loc 2 0))), (8, int .i64 i)], [(0, .st [.x (.bool (decide (a < 0))), dsL a.natAbs (ln a.natAbs)]), (1, .st [.x (.bool false), .x (.slice none 0 0)]), (2, .st [.x (.bool (decide (o < 0))), dsL o.natAbs (ln o.natAbs)])], 3⟩, fun (i, o) => -1 ≤ i ∧ i ≤ 6 ∧ o = a ^ (E / 2 ^ (i + 1).toNat), fun (i, _) => (i + 1).toNat, ⟨((L : Int) - 1, 1), [], ⟨by omega, by omega, by rw [show ((L : Int) - 1 + 1).toNat = L by omega]; exact s3.symm⟩, ?_⟩, ?_⟩⟩
    · refine ⟨?_, ?_, rfl⟩
      · refine .cons (.int ?_) (.cons (.refl _) (.cons (.refl _) (.cons (.refl _) (.cons (.refl _) .nil))))
        show (if (2 : Int) + (n : Int).tmod 2 < n then (2 : Int) + (n : Int).tmod 2 else n) = E
        split <;> omega
      · exact .cons rfl (.refl _) (.cons rfl (.refl _) (.cons rfl (.refl _) .nil))
    rintro ⟨i, o⟩ ⟨i1, i2, ho⟩
    clear hE em s1 s2 s3 b o1
    by_cases hi : 0 ≤ i
    · obtain ⟨q1, q2⟩ := pow_next hi ho
      have lo : ln o.natAbs ≤ 1000 := by rw [ho]; exact mls _ (dls _ _ El)
      have loo : ln (o * o).natAbs ≤ 2000 := by rw [Int.natAbs_mul]; have := ln_mul o.natAbs o.natAbs; omega
      have m1 := BMul_sp o o (by omega) (by omega)
      have m2 := BMul_sp (o * o) a (by omega) (by omega)
      have hsb : Nat.beq i.toNat 32 = false := nbeq_f (by omega)
      have eb := pow_bit (j := i.toNat) El
      have ei : ((i.toNat : Nat) : Int) = i := by omega
      clear mls dls
      by_cases hq : E / 2 ^ i.toNat % 2 = 1
      · rw [hq] at eb
        have q3 := q1 hq
        repeat' ((conv => whnf); first | (refine Ob.mk ⟨hi, (by show i.toNat ≤ 64; omega)⟩ ?_) | (refine BitOb.mk' _ eb ?_) | refine Jb ?_ | refine Je ?_ | refine Jy m1 ?_ | refine Jy m2 ?_ | (rw [hsb]))
        exact ⟨(i - 1, o * o * a), [], ⟨by omega, by omega, q3⟩, by show (i - 1 + 1).toNat < (i + 1).toNat; omega, Ent.g⟩
      · have hq0 : E / 2 ^ i.toNat % 2 = 0 := by omega
        rw [hq0] at eb
        have q3 := q2 hq0
        repeat' ((conv => whnf); first | (refine Ob.mk ⟨hi, (by show i.toNat ≤ 64; omega)⟩ ?_) | (refine BitOb.mk' _ eb ?_) | refine Jb ?_ | refine Je ?_ | refine Jf ?_ | refine Jy m1 ?_ | refine Jy m2 ?_ | (rw [hsb]))
        exact ⟨(i - 1, o * o), [], ⟨by omega, by omega, q3⟩, by show (i - 1 + 1).toNat < (i + 1).toNat; omega, Ent.g⟩
    · have e0 : o = a ^ E := by
        rw [ho, show (i + 1).toNat = 0 by omega, Nat.pow_zero, Nat.div_one]
      clear mls dls
      subst e0
      repeat' ((conv => whnf); first | refine Jf ?_)
      refine ⟨⟨_, _, rfl, rfl, ?_⟩⟩
      exact AvLe.refl _
  · obtain ⟨E, hE⟩ : ∃ E, E = n := ⟨_, rfl⟩
    have El : E ≤ 64 := by omega
    subst hE
    obtain ⟨s1, s2, s3⟩ := fin E El
    have et : 64 ≤ (1048576 : Int).tdiv B := by
      rw [show (1048576 : Int).tdiv B = ((1048576 / B : Nat) : Int) from (Int.ofNat_tdiv 1048576 B).symm]
      have := (Nat.le_div_iff_mul_le (show 0 < B by omega)).2 (show 64 * B ≤ 1048576 by omega)
      omega
    have eo : (B : Int) ≠ 0 ∧ InK .i64 ((1048576 : Int).tdiv B) := ⟨by omega, tdivIn (by omega) (by omega)⟩
    generalize Lib.bitLen E = L at *
    clear bt fin
    refine fn_sp (C := CX) [] [] tysX_ok mixed Tryz.func48 rfl (by kernel_rfl) Tryz.ntmps48 rfl rfl ?_
    repeat' ((conv => whnf); first | (refine Ob.mk eo ?_) | refine Jb ?_ | refine Je ?_ | refine Jf ?_ | refine Jy b ?_ | refine Jy o1 ?_ | refine Sp.call (s1) (.cons (.int (by omega)) .nil) rfl (AvLe.refl _) ?_)
    refine ⟨⟨Int × Int, fun (i, o) => ⟨[(1, int .i64 E), (2, .v (.c (.loc 0 0))), (4, .v (.c (.loc 1 0))), (7, .v (.c (.loc 2 0))), (8, int .i64 i)], [(0, .st [.x (.bool (decide (a < 0))), dsL a.natAbs (ln a.natAbs)]), (1, .st [.x (.bool false), .x (.slice none 0 0)]), (2, .st [.x (.bool (decide (o < 0))), dsL o.natAbs (ln o.natAbs)])], 3⟩, fun (i, o) => -1 ≤ i ∧ i ≤ 6 ∧ o = a ^ (E / 2 ^ (i + 1).toNat), fun (i, _) => (i + 1).toNat, ⟨((L : Int) - 1, 1), [], ⟨by omega, by omega, by rw [show ((L : Int) - 1 + 1).toNat = L by omega]; exact s3.symm⟩, ?_⟩, ?_⟩⟩
    · refine ⟨?_, ?_, rfl⟩
      · exact .cons (.refl _) (.cons (.refl _) (.cons (.refl _) (.cons (.refl _) (.cons (.refl _) .nil))))
      · exact .cons rfl (.refl _) (.cons rfl (.refl _) (.cons rfl (.refl _) .nil))
    rintro ⟨i, o⟩ ⟨i1, i2, ho⟩
    clear et s1 s2 s3 b o1
    by_cases hi : 0 ≤ i
    · obtain ⟨q1, q2⟩ := pow_next hi ho
      have lo : ln o.natAbs ≤ 1000 := by rw [ho]; exact mls _ (dls _ _ El)
      have loo : ln (o * o).natAbs ≤ 2000 := by rw [Int.natAbs_mul]; have := ln_mul o.natAbs o.natAbs; omega
      have m1 := BMul_sp o o (by omega) (by omega)
      have m2 := BMul_sp (o * o) a (by omega) (by omega)
      have hsb : Nat.beq i.toNat 32 = false := nbeq_f (by omega)
      have eb := pow_bit (j := i.toNat) El
      have ei : ((i.toNat : Nat) : Int) = i := by omega
      clear mls dls
      by_cases hq : E / 2 ^ i.toNat % 2 = 1
      · rw [hq] at eb
        have q3 := q1 hq
        repeat' ((conv => whnf); first | (refine Ob.mk ⟨hi, (by show i.toNat ≤ 64; omega)⟩ ?_) | (refine BitOb.mk' _ eb ?_) | refine Jb ?_ | refine Je ?_ | refine Jy m1 ?_ | refine Jy m2 ?_ | (rw [hsb]))
        exact ⟨(i - 1, o * o * a), [], ⟨by omega, by omega, q3⟩, by show (i - 1 + 1).toNat < (i + 1).toNat; omega, Ent.g⟩
      · have hq0 : E / 2 ^ i.toNat % 2 = 0 := by omega
        rw [hq0] at eb
        have q3 := q2 hq0
        repeat' ((conv => whnf); first | (refine Ob.mk ⟨hi, (by show i.toNat ≤ 64; omega)⟩ ?_) | (refine BitOb.mk' _ eb ?_) | refine Jb ?_ | refine Je ?_ | refine Jf ?_ | refine Jy m1 ?_ | refine Jy m2 ?_ | (rw [hsb]))
        exact ⟨(i - 1, o * o), [], ⟨by omega, by omega, q3⟩, by show (i - 1 + 1).toNat < (i + 1).toNat; omega, Ent.g⟩
    · have e0 : o = a ^ E := by
        rw [ho, show (i + 1).toNat = 0 by omega, Nat.pow_zero, Nat.div_one]
      clear mls dls
      subst e0
      repeat' ((conv => whnf); first | refine Jf ?_)
      refine ⟨⟨_, _, rfl, rfl, ?_⟩⟩
      exact AvLe.refl _
theorem bsz_one : bsz 1 = 1 := by decide
theorem RBits_sp (m : Int) (h : ln m.natAbs ≤ 1) : Sp CX 125 [qA (m : Rat)] (int .i64 (max (bsz m.natAbs) 1 : Nat)) := by
  have s := RNormal_sp (m : Rat) (QB.int (k := 1) h (by omega) |>.mono (by omega))
  have b1 := Bits_sp (m : Rat).num (by rw [Rat.num_intCast]; omega)
  have b2 := Bits_sp ((m : Rat).den : Int) (by rw [Rat.den_intCast]; decide)
  rw [Rat.num_intCast] at b1
  have e : bsz (((m : Rat).den : Nat) : Int).natAbs = 1 := by rw [Rat.den_intCast]; exact bsz_one
  rw [e] at b2
  have bl := bsz_le h
  generalize bsz m.natAbs = B at *
  refine fn_sp (C := CX) [] [] tysX_ok mixed Tryz.func125 rfl (by kernel_rfl) Tryz.ntmps125 rfl rfl ?_
  repeat' ((conv => whnf); first | refine Ji ?_ | refine Jj ?_ | refine Jk rfl ?_ | refine Jy s ?_ | refine Jy b1 ?_ | refine Jy b2 ?_)
  refine ⟨⟨_, _, rfl, rfl, ?_⟩⟩
  refine .int ?_
  show (if (B : Int) < 1 then (1 : Int) else B) = _
  split <;> omega
set_option maxHeartbeats 4000000 in
theorem RPow_sp (m : Int) (n : Nat) (h : ln m.natAbs ≤ 1) (hn : n ≤ 64) : Sp CX 84 [qA (m : Rat), int .i64 n] (.tup [qV ((m ^ n : Int) : Rat), .c (ix 0)]) := by
  have s := RNormal_sp (m : Rat) (QB.int (k := 1) h (by omega) |>.mono (by omega))
  have b := RBits_sp m h
  have bl := bsz_le h
  have bt := fun x => bsz_tiny h x
  generalize bsz m.natAbs = B at *
  have lp : ln (m ^ n).natAbs ≤ 100 := by have := ln_pow h n; omega
  obtain ⟨S, hS⟩ : ∃ S, S = max B 1 := ⟨_, rfl⟩
  rw [← hS] at b
  by_cases hB : S ≤ 1
  · have hp := pow_tiny (n := n) (bt (by omega))
    have w := Whole_sp (m ^ n) (by omega)
    by_cases h0 : n = 0
    · subst h0
      have p := BPow_sp m 0 h (by omega)
      refine fn_sp (C := CX) [] [] tysX_ok mixed Tryz.func84 rfl (by kernel_rfl) Tryz.ntmps84 rfl rfl ?_
      repeat' ((conv => whnf); first | refine Je ?_ | refine Jf ?_ | refine Jy s ?_ | refine Jy b ?_ | refine Jy p ?_ | refine Jy w ?_)
      refine ⟨⟨_, _, rfl, rfl, ?_⟩⟩
      exact AvLe.refl _
    · have em : (n : Int).tmod 2 = ((n % 2 : Nat) : Int) := (Int.ofNat_tmod n 2).symm
      have p := BPow_sp m (2 + n % 2) h (by omega)
      have hq : m ^ (2 + n % 2) = m ^ n := by
        by_cases h1 : n = 1
        · subst h1
          rcases (show m = 0 ∨ m = 1 ∨ m = -1 by have := bt (by omega); omega) with rfl | rfl | rfl <;> decide
        · rw [Nat.min_eq_right (by omega)] at hp
          exact hp
      rw [hq] at p
      clear bt hp hq
      refine fn_sp (C := CX) [] [] tysX_ok mixed Tryz.func84 rfl (by kernel_rfl) Tryz.ntmps84 rfl rfl ?_
      repeat' ((conv => whnf); first | refine Ja ?_ | refine Jb ?_ | refine Je ?_ | refine Jf ?_ | refine Jy s ?_ | refine Jy b ?_ | refine Sp.call (p) (.cons (.refl _) (.cons (.int (by omega)) .nil)) rfl (AvLe.refl _) ?_ | refine Jy w ?_)
      refine ⟨⟨_, _, rfl, rfl, ?_⟩⟩
      exact AvLe.refl _
  · have et : 64 ≤ (1048576 : Int).tdiv S ∧ (1048576 : Int).tdiv S ≤ 1048576 := by
      rw [show (1048576 : Int).tdiv S = ((1048576 / S : Nat) : Int) from (Int.ofNat_tdiv 1048576 S).symm]
      have := (Nat.le_div_iff_mul_le (show 0 < S by omega)).2 (show 64 * S ≤ 1048576 by omega)
      have := Nat.div_le_self 1048576 S
      omega
    obtain ⟨et1, et2⟩ := et
    have eo : (S : Int) ≠ 0 ∧ InK .i64 ((1048576 : Int).tdiv S) := ⟨by omega, tdivIn (by omega) (by omega)⟩
    have p := BPow_sp m n h (by omega)
    have p1 := BPow_sp 1 n (by decide) (by omega)
    rw [Int.one_pow] at p1
    have e1 : (m : Rat).num = m := Rat.num_intCast m
    have e2 : (((m : Rat).den : Nat) : Int) = 1 := by rw [Rat.den_intCast]; rfl
    have o := over_sp (m ^ n) 1 (by omega) (by decide)
    have eq : Rat.divInt (m ^ n) 1 = ((m ^ n : Int) : Rat) := by
      rw [divInt_div]
      have n1 : ((1 : Int) : Rat) = 1 := rfl
      rw [n1]
      grind
    rw [eq] at o
    have em : (if (n : Int) < -(n : Int) then -(n : Int) else n) = n := by split <;> omega
    clear bt
    generalize m ^ n = X at *
    refine fn_sp (C := CX) [] [] tysX_ok mixed Tryz.func84 rfl (by kernel_rfl) Tryz.ntmps84 rfl rfl ?_
    repeat' ((conv => whnf); first | (refine Ob.mk eo ?_) | refine Jb ?_ | refine Jf ?_ | refine Jy s ?_ | refine Jy b ?_ | refine Sp.call (p) (.cons (.refl _) (.cons (.int em) .nil)) rfl (AvLe.refl _) ?_ | refine Sp.call (p1) (.cons (.refl _) (.cons (.int em) .nil)) rfl (AvLe.refl _) ?_ | refine Jy o ?_)
    refine ⟨⟨_, _, rfl, rfl, ?_⟩⟩
    exact AvLe.refl _
end Go.Proofs.YtdjfndfkjbjcpaaGreatDoor

