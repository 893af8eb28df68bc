/- Own texts joined: RtA, RtB. -/
import Derived.Test.YtdjfndfkjbjcpaaGreatDoorPkDvA
import Derived.Test.YtdjfndfkjbjcpaaGreatDoorPkNumS
import Derived.Test.YtdjfndfkjbjcpaaGreatDoorPkBnA
/- Fractions in letters: over, Make, Of, Whole, Integer, Sign, Neg, Add, Sub, Mul, Floor, Cmp. -/
namespace Go.Proofs.YtdjfndfkjbjcpaaGreatDoor
open Go Go.RowKit Go.VG HP
def qV (q : Rat) : V1 := .agg [.x (.bool (decide (q.num < 0))), dsL q.num.natAbs (ln q.num.natAbs), .x (.bool (decide ((q.den : Int) < 0))), dsL (q.den : Int).natAbs (ln (q.den : Int).natAbs)]
def qA (q : Rat) : AV := .v (qV q)
def QB (k : Nat) (q : Rat) : Prop := ln q.num.natAbs ≤ k ∧ ln q.den ≤ k
theorem qA_mk {n d : Int} {q : Rat} (h1 : n = q.num) (h2 : d = q.den) : AvLe (.v (.agg [.x (.bool (decide (n < 0))), dsL n.natAbs (ln n.natAbs), .x (.bool (decide (d < 0))), dsL d.natAbs (ln d.natAbs)])) (qA q) := by
  subst h1
  subst h2
  exact .refl _
theorem qA_zero : AvLe (.v (.agg [.x (.bool false), .x (.slice none 0 0), .x (.bool (decide ((1 : Int) < 0))), dsL (1 : Int).natAbs (ln (1 : Int).natAbs)])) (qA 0) :=
  .agg (.cons (.bool rfl) (.cons .nil (.cons (.refl _) (.cons (.refl _) .nil))))
theorem QB.mono {k m : Nat} {q : Rat} (h : QB k q) (hk : k ≤ m) : QB m q := ⟨Nat.le_trans h.1 hk, Nat.le_trans h.2 hk⟩
theorem ln_pos' {x : Nat} : (ln x = 0 ↔ x = 0) := (len_ln x).zero_iff
set_option maxHeartbeats 4000000 in
theorem qone_sp (a : Int) : Sp CX 69 [zA a] (bool (decide (a = 1))) := by
  by_cases h1 : ln a.natAbs = 1
  · obtain ⟨d, hd⟩ := one_dg h1
    by_cases h2 : a.natAbs = 1
    · by_cases h3 : a < 0
      · rw [decide_eq_false (show ¬ a = 1 by omega)]
        refine fn_sp (C := CX) [] [] tysX_ok mixed Tryz.func69 rfl (by kernel_rfl) Tryz.ntmps69 rfl rfl ?_
        repeat' ((conv => whnf); first | (refine Idx.mk ⟨0, rfl, by omega, ?_⟩) | refine Je ?_)
        refine ⟨⟨_, _, rfl, rfl, ?_⟩⟩
        exact AvLe.bool (by rw [decide_eq_true h3]; rfl)
      · rw [decide_eq_true (show a = 1 by omega)]
        refine fn_sp (C := CX) [] [] tysX_ok mixed Tryz.func69 rfl (by kernel_rfl) Tryz.ntmps69 rfl rfl ?_
        repeat' ((conv => whnf); first | (refine Idx.mk ⟨0, rfl, by omega, ?_⟩) | refine Je ?_)
        refine ⟨⟨_, _, rfl, rfl, ?_⟩⟩
        exact AvLe.bool (by rw [decide_eq_false h3]; rfl)
    · rw [decide_eq_false (show ¬ a = 1 by omega)]
      refine fn_sp (C := CX) [] [] tysX_ok mixed Tryz.func69 rfl (by kernel_rfl) Tryz.ntmps69 rfl rfl ?_
      repeat' ((conv => whnf); first | (refine Idx.mk ⟨0, rfl, by omega, ?_⟩) | refine Je ?_ | refine Jf ?_)
      refine ⟨⟨_, _, rfl, rfl, ?_⟩⟩
      exact AvLe.refl _
  · have h2 : ¬ a = 1 := fun h => h1 (by rw [h]; rfl)
    rw [decide_eq_false h2]
    refine fn_sp (C := CX) [] [] tysX_ok mixed Tryz.func69 rfl (by kernel_rfl) Tryz.ntmps69 rfl rfl ?_
    repeat' ((conv => whnf); first | refine Jf ?_)
    refine ⟨⟨_, _, rfl, rfl, ?_⟩⟩
    exact AvLe.refl _
set_option maxHeartbeats 8000000 in
theorem over_sp (n d : Int) (hn : ln n.natAbs ≤ 190000) (hd : ln d.natAbs ≤ 190000) : Sp CX 71 [zA n, zA d] (qA (Rat.divInt n d)) := by
  have n1 := BNormal_sp n (by omega)
  have n2 := BNormal_sp d (by omega)
  have o1 := Of_sp 1 (by omega) (by omega)
  have zd := ln_pos' (x := d.natAbs)
  have zn := ln_pos' (x := n.natAbs)
  by_cases hd0 : d = 0
  · have e : Rat.divInt n d = 0 := by rw [hd0]; exact Rat.divInt_zero n
    rw [e]
    refine fn_sp (C := CX) [] [] tysX_ok mixed Tryz.func71 rfl (by kernel_rfl) Tryz.ntmps71 rfl rfl ?_
    repeat' ((conv => whnf); first | refine Je ?_ | refine Ji ?_ | refine Jj ?_ | refine Jk rfl ?_ | refine Jy n1 ?_ | refine Jy n2 ?_ | refine Jy o1 ?_)
    refine ⟨⟨_, _, rfl, rfl, ?_⟩⟩
    exact qA_zero
  by_cases hn0 : n = 0
  · have e : Rat.divInt n d = 0 := by rw [hn0]; exact Rat.zero_divInt d
    rw [e]
    refine fn_sp (C := CX) [] [] tysX_ok mixed Tryz.func71 rfl (by kernel_rfl) Tryz.ntmps71 rfl rfl ?_
    repeat' ((conv => whnf); first | refine Je ?_ | refine Jf ?_ | refine Ji ?_ | refine Jj ?_ | refine Jk rfl ?_ | refine Jy n1 ?_ | refine Jy n2 ?_ | refine Jy o1 ?_)
    refine ⟨⟨_, _, rfl, rfl, ?_⟩⟩
    exact qA_zero
  by_cases hneg : d < 0
  · have m1 := BNeg_sp n (by omega)
    have m2 := BNeg_sp d (by omega)
    rw [← over_neg]
    have ln1 : ln (-n).natAbs ≤ 190000 := by rw [Int.natAbs_neg]; exact hn
    have ln2 : ln (-d).natAbs ≤ 190000 := by rw [Int.natAbs_neg]; exact hd
    have hp : 0 < -d := by omega
    have n0' : -n ≠ 0 := by omega
    generalize hN : -n = N at *
    generalize hD : -d = D at *
    have k1 := qone_sp D
    by_cases h1 : D = 1
    · have ow := over_whole N
      have e : Rat.divInt N D = Rat.divInt N 1 := by rw [h1]
      refine fn_sp (C := CX) [] [] tysX_ok mixed Tryz.func71 rfl (by kernel_rfl) Tryz.ntmps71 rfl rfl ?_
      repeat' ((conv => whnf); first | refine Je ?_ | refine Jf ?_ | refine Ji ?_ | refine Jj ?_ | refine Jk rfl ?_ | refine Jy n1 ?_ | refine Jy n2 ?_ | refine Jy m1 ?_ | refine Jy m2 ?_ | refine Jy k1 ?_)
      refine ⟨⟨_, _, rfl, rfl, ?_⟩⟩
      exact qA_mk (by rw [e, ow.1]) (by rw [e, ow.2, h1]; rfl)
    · have g := Gcd_sp N D (by omega) (by omega)
      have k2 := qone_sp ((Int.gcd N D : Nat) : Int)
      by_cases hg : Int.gcd N D = 1
      · obtain ⟨c1, c2⟩ := over_cop hp hg
        have hg' : ((Int.gcd N D : Nat) : Int) = 1 := by omega
        refine fn_sp (C := CX) [] [] tysX_ok mixed Tryz.func71 rfl (by kernel_rfl) Tryz.ntmps71 rfl rfl ?_
        repeat' ((conv => whnf); first | refine Je ?_ | refine Jf ?_ | refine Ji ?_ | refine Jj ?_ | refine Jk rfl ?_ | refine Jy n1 ?_ | refine Jy n2 ?_ | refine Jy m1 ?_ | refine Jy m2 ?_ | refine Jy k1 ?_ | refine Jy g ?_ | refine Jy k2 ?_)
        refine ⟨⟨_, _, rfl, rfl, ?_⟩⟩
        exact qA_mk c1.symm c2.symm
      · obtain ⟨c1, c2⟩ := over_num (n := N) hp
        have hg' : ¬ ((Int.gcd N D : Nat) : Int) = 1 := by omega
        have g0 : ((Int.gcd N D : Nat) : Int) ≠ 0 := by have := Int.gcd_pos_of_ne_zero_left D n0'; omega
        have lg : ln ((Int.gcd N D : Nat) : Int).natAbs ≤ 190000 := Nat.le_trans (ln_mono (by rw [Int.natAbs_natCast]; exact Nat.le_of_dvd (by omega) (Nat.gcd_dvd_right _ _))) ln2
        have x1 := Exact_sp N (Int.gcd N D : Nat) g0 (Int.gcd_dvd_left N D) (by omega) (by omega)
        have x2 := Exact_sp D (Int.gcd N D : Nat) g0 (Int.gcd_dvd_right N D) (by omega) (by omega)
        refine fn_sp (C := CX) [] [] tysX_ok mixed Tryz.func71 rfl (by kernel_rfl) Tryz.ntmps71 rfl rfl ?_
        repeat' ((conv => whnf); first | refine Je ?_ | refine Jf ?_ | refine Ji ?_ | refine Jj ?_ | refine Jk rfl ?_ | refine Jy n1 ?_ | refine Jy n2 ?_ | refine Jy m1 ?_ | refine Jy m2 ?_ | refine Jy k1 ?_ | refine Jy g ?_ | refine Jy k2 ?_ | refine Jy x1 ?_ | refine Jy x2 ?_)
        refine ⟨⟨_, _, rfl, rfl, ?_⟩⟩
        exact qA_mk c1.symm c2.symm
  · have hp : 0 < d := by omega
    have k1 := qone_sp d
    by_cases h1 : d = 1
    · have ow := over_whole n
      have e : Rat.divInt n d = Rat.divInt n 1 := by rw [h1]
      refine fn_sp (C := CX) [] [] tysX_ok mixed Tryz.func71 rfl (by kernel_rfl) Tryz.ntmps71 rfl rfl ?_
      repeat' ((conv => whnf); first | refine Je ?_ | refine Jf ?_ | refine Ji ?_ | refine Jj ?_ | refine Jk rfl ?_ | refine Jy n1 ?_ | refine Jy n2 ?_ | refine Jy k1 ?_)
      refine ⟨⟨_, _, rfl, rfl, ?_⟩⟩
      exact qA_mk (by rw [e, ow.1]) (by rw [e, ow.2, h1]; rfl)
    · have g := Gcd_sp n d (by omega) (by omega)
      have k2 := qone_sp ((Int.gcd n d : Nat) : Int)
      by_cases hg : Int.gcd n d = 1
      · obtain ⟨c1, c2⟩ := over_cop hp hg
        have hg' : ((Int.gcd n d : Nat) : Int) = 1 := by omega
        refine fn_sp (C := CX) [] [] tysX_ok mixed Tryz.func71 rfl (by kernel_rfl) Tryz.ntmps71 rfl rfl ?_
        repeat' ((conv => whnf); first | refine Jf ?_ | refine Ji ?_ | refine Jj ?_ | refine Jk rfl ?_ | refine Jy n1 ?_ | refine Jy n2 ?_ | refine Jy k1 ?_ | refine Jy g ?_ | refine Jy k2 ?_)
        refine ⟨⟨_, _, rfl, rfl, ?_⟩⟩
        exact qA_mk c1.symm c2.symm
      · obtain ⟨c1, c2⟩ := over_num (n := n) hp
        have hg' : ¬ ((Int.gcd n d : Nat) : Int) = 1 := by omega
        have g0 : ((Int.gcd n d : Nat) : Int) ≠ 0 := by have := Int.gcd_pos_of_ne_zero_left d hn0; omega
        have lg : ln ((Int.gcd n d : Nat) : Int).natAbs ≤ 190000 := Nat.le_trans (ln_mono (by rw [Int.natAbs_natCast]; exact Nat.le_of_dvd (by omega) (Nat.gcd_dvd_right _ _))) hd
        have x1 := Exact_sp n (Int.gcd n d : Nat) g0 (Int.gcd_dvd_left n d) (by omega) (by omega)
        have x2 := Exact_sp d (Int.gcd n d : Nat) g0 (Int.gcd_dvd_right n d) (by omega) (by omega)
        refine fn_sp (C := CX) [] [] tysX_ok mixed Tryz.func71 rfl (by kernel_rfl) Tryz.ntmps71 rfl rfl ?_
        repeat' ((conv => whnf); first | refine Je ?_ | refine Jf ?_ | refine Ji ?_ | refine Jj ?_ | refine Jk rfl ?_ | refine Jy n1 ?_ | refine Jy n2 ?_ | refine Jy k1 ?_ | refine Jy g ?_ | refine Jy k2 ?_ | refine Jy x1 ?_ | refine Jy x2 ?_)
        refine ⟨⟨_, _, rfl, rfl, ?_⟩⟩
        exact qA_mk c1.symm c2.symm
end Go.Proofs.YtdjfndfkjbjcpaaGreatDoor

/- Fractions in letters: Make, Of, Whole, Integer, Sign, Cmp, Neg, Add, Sub, Mul, Floor. -/
namespace Go.Proofs.YtdjfndfkjbjcpaaGreatDoor
open Go Go.RowKit Go.VG HP
theorem QB.den {k : Nat} {q : Rat} (h : QB k q) : ln (q.den : Int).natAbs ≤ k := h.2
theorem den0 (q : Rat) : ¬ (q.den : Int) = 0 := by have := q.den_nz; omega
theorem QB.divInt {n d : Int} {k : Nat} (hd : d ≠ 0) (h1 : ln n.natAbs ≤ k) (h2 : ln d.natAbs ≤ k) : QB k (Rat.divInt n d) := by
  have := rat_bd (a := n) hd
  exact ⟨Nat.le_trans (ln_mono this.1) h1, Nat.le_trans (ln_mono this.2) h2⟩
theorem QB.add {i j : Nat} {a b : Rat} (ha : QB i a) (hb : QB j b) : QB (i + j + 1) (a + b) := by
  rw [rat_add]
  have n1 := ln_mul a.num.natAbs b.den
  have n2 := ln_mul b.num.natAbs a.den
  have n3 := ln_mul a.den b.den
  have a1 := ha.1; have a2 := ha.2; have b1 := hb.1; have b2 := hb.2
  refine QB.divInt (by have := a.den_nz; have := b.den_nz; exact Int.mul_ne_zero (by omega) (by omega)) ?_ ?_
  · have h : (a.num * b.den + b.num * a.den).natAbs ≤ a.num.natAbs * b.den + b.num.natAbs * a.den := by
      refine Nat.le_trans (Int.natAbs_add_le _ _) ?_
      rw [Int.natAbs_mul, Int.natAbs_mul]
      exact Nat.le_refl _
    have h2 := ln_add (a.num.natAbs * b.den) (b.num.natAbs * a.den)
    have := ln_mono h
    omega
  · rw [Int.natAbs_mul]
    show ln (a.den * b.den) ≤ _
    omega
theorem QB.mul {i j : Nat} {a b : Rat} (ha : QB i a) (hb : QB j b) : QB (i + j) (a * b) := by
  rw [rat_mul]
  have n1 := ln_mul a.num.natAbs b.num.natAbs
  have n3 := ln_mul a.den b.den
  have a1 := ha.1; have a2 := ha.2; have b1 := hb.1; have b2 := hb.2
  refine QB.divInt (by have := a.den_nz; have := b.den_nz; exact Int.mul_ne_zero (by omega) (by omega)) ?_ ?_
  · rw [Int.natAbs_mul]; omega
  · rw [Int.natAbs_mul]
    show ln (a.den * b.den) ≤ _
    omega
theorem QB.neg {i : Nat} {a : Rat} (ha : QB i a) : QB i (-a) := by
  refine ⟨?_, ?_⟩
  · rw [Rat.neg_num, Int.natAbs_neg]; exact ha.1
  · rw [Rat.neg_den]; exact ha.2
theorem QB.sub {i j : Nat} {a b : Rat} (ha : QB i a) (hb : QB j b) : QB (i + j + 1) (a - b) := by
  rw [rat_sub]
  exact ha.add hb.neg
theorem QB.int {n : Int} {k : Nat} (h : ln n.natAbs ≤ k) (hk : 1 ≤ k) : QB k (n : Rat) := by
  refine ⟨?_, ?_⟩
  · rw [Rat.num_intCast]; exact h
  · rw [Rat.den_intCast, ln_one]; exact hk
theorem ln64 {n : Int} (h1 : -9223372036854775808 ≤ n) (h2 : n ≤ 9223372036854775807) : ln n.natAbs ≤ 2 := ln_two (by omega)
theorem QB.i64 {n : Int} (h1 : -9223372036854775808 ≤ n) (h2 : n ≤ 9223372036854775807) : QB 2 (n : Rat) := QB.int (ln64 h1 h2) (by omega)
theorem Make_sp (n d : Int) (h0 : d ≠ 0) (hn : ln n.natAbs ≤ 190000) (hd : ln d.natAbs ≤ 190000) : Sp CX 34 [zA n, zA d] (.tup [qV (Rat.divInt n d), .c (ix 0)]) := by
  have s := Sign_sp d (by omega)
  have o := over_sp n d hn hd
  have e : ¬ (if d < 0 then (-1 : Int) else if 0 < d then 1 else 0) = 0 := by split <;> (try split) <;> omega
  generalize (if d < 0 then (-1 : Int) else if 0 < d then 1 else 0) = z at *
  refine fn_sp (C := CX) [] [] tysX_ok mixed Tryz.func34 rfl (by kernel_rfl) Tryz.ntmps34 rfl rfl ?_
  repeat' ((conv => whnf); first | refine Jf ?_ | refine Jy s ?_ | refine Jy o ?_)
  refine ⟨⟨_, _, rfl, rfl, ?_⟩⟩
  exact AvLe.refl _
theorem ROf_sp (n : Int) (h1 : -9223372036854775808 ≤ n) (h2 : n ≤ 9223372036854775807) : Sp CX 18 [int .i64 n] (qA (n : Rat)) := by
  have s := Of_sp n h1 h2
  have o := Of_sp 1 (by omega) (by omega)
  refine fn_sp (C := CX) [] [] tysX_ok mixed Tryz.func18 rfl (by kernel_rfl) Tryz.ntmps18 rfl rfl ?_
  repeat' ((conv => whnf); first | refine Ja ?_ | refine Jy s ?_ | refine Jy o ?_)
  refine ⟨⟨_, _, rfl, rfl, ?_⟩⟩
  exact qA_mk rfl rfl
theorem Whole_sp (n : Int) (h : ln n.natAbs ≤ 400000) : Sp CX 20 [zA n] (qA (n : Rat)) := by
  have s := BNormal_sp n h
  have o := Of_sp 1 (by omega) (by omega)
  refine fn_sp (C := CX) [] [] tysX_ok mixed Tryz.func20 rfl (by kernel_rfl) Tryz.ntmps20 rfl rfl ?_
  repeat' ((conv => whnf); first | refine Ja ?_ | refine Jy s ?_ | refine Jy o ?_)
  refine ⟨⟨_, _, rfl, rfl, ?_⟩⟩
  exact qA_mk rfl rfl
theorem RNormal_sp (q : Rat) (h : QB 190000 q) : Sp CX 68 [qA q] (qA q) := by
  have o := over_sp q.num q.den h.1 h.2
  rw [over_self] at o
  refine fn_sp (C := CX) [] [] tysX_ok mixed Tryz.func68 rfl (by kernel_rfl) Tryz.ntmps68 rfl rfl ?_
  repeat' ((conv => whnf); first | refine Ja ?_ | refine Jy o ?_)
  refine ⟨⟨_, _, rfl, rfl, ?_⟩⟩
  exact AvLe.refl _
theorem Integer_sp (n : Int) (h : ln n.natAbs ≤ 190000) : Sp CX 30 [qA (n : Rat)] (.tup [zV n, .c (.x (.bool true))]) := by
  have s := RNormal_sp (n : Rat) (QB.int h (by omega))
  have k := qone_sp (((n : Rat).den : Nat) : Int)
  have e : (((n : Rat).den : Nat) : Int) = 1 := by rw [Rat.den_intCast]; rfl
  refine fn_sp (C := CX) [] [] tysX_ok mixed Tryz.func30 rfl (by kernel_rfl) Tryz.ntmps30 rfl rfl ?_
  repeat' ((conv => whnf); first | refine Jf ?_ | refine Jy s ?_ | refine Jy k ?_)
  refine ⟨⟨_, _, rfl, rfl, ?_⟩⟩
  exact AvLe.refl _
theorem sgn_den (q : Rat) (h : ln (q.den : Int).natAbs ≤ 1000000) : Sp CX 67 [zA (q.den : Int)] (int .i64 1) := by
  have s := Sign_sp (q.den : Int) h
  have := den0 q
  rw [if_neg (by omega), if_pos (by omega)] at s
  exact s
def sgI (n : Int) : Int := if n < 0 then -1 else if 0 < n then 1 else 0
theorem sgI_eq (n : Int) : sgI n = n.sign := by
  unfold sgI
  rcases sgn_tri n with ⟨e, h⟩ | ⟨e, h⟩ | ⟨e, h⟩
  · rw [if_pos h, e]
  · rw [if_neg (by omega), if_neg (by omega), e]
  · rw [if_neg (by omega), if_pos h, e]
theorem RSign_sp (q : Rat) (h : QB 1000000 q) : Sp CX 126 [qA q] (int .i64 q.num.sign) := by
  have s := Sign_sp q.num h.1
  have e : (if q.num < 0 then (-1 : Int) else if 0 < q.num then 1 else 0) = q.num.sign := sgI_eq _
  rw [e] at s
  have s2 := sgn_den q h.2
  have b : -1 ≤ q.num.sign ∧ q.num.sign ≤ 1 := by rcases sgn_tri q.num with ⟨e, h⟩ | ⟨e, h⟩ | ⟨e, h⟩ <;> omega
  refine fn_sp (C := CX) [] [] tysX_ok mixed Tryz.func126 rfl (by kernel_rfl) Tryz.ntmps126 rfl rfl ?_
  repeat' ((conv => whnf); first | refine Jb ?_ | refine Ji ?_ | refine Jj ?_ | refine Jk rfl ?_ | refine Jy s ?_ | refine Jy s2 ?_)
  refine ⟨⟨_, _, rfl, rfl, ?_⟩⟩
  exact .int (by omega)
theorem RNeg_sp (q : Rat) (h : QB 190000 q) : Sp CX 72 [qA q] (qA (-q)) := by
  have s := BNeg_sp q.num (by have := h.1; omega)
  have o := over_sp (-q.num) q.den (by rw [Int.natAbs_neg]; exact h.1) h.2
  rw [← rat_neg] at o
  refine fn_sp (C := CX) [] [] tysX_ok mixed Tryz.func72 rfl (by kernel_rfl) Tryz.ntmps72 rfl rfl ?_
  repeat' ((conv => whnf); first | refine Ji ?_ | refine Jj ?_ | refine Jk rfl ?_ | refine Jy s ?_ | refine Jy o ?_)
  refine ⟨⟨_, _, rfl, rfl, ?_⟩⟩
  exact AvLe.refl _
theorem natAbs_den (a b : Rat) : ((a.den : Int) * b.den).natAbs = a.den * b.den := by rw [Int.natAbs_mul]; rfl
set_option maxHeartbeats 4000000 in
theorem RAdd_sp (a b : Rat) (ha : QB 40000 a) (hb : QB 40000 b) : Sp CX 28 [qA a, qA b] (qA (a + b)) := by
  have a1 := ha.1; have a2 := ha.2; have b1 := hb.1; have b2 := hb.2
  have d1 := sgn_den a (by show ln a.den ≤ _; omega)
  have d2 := sgn_den b (by show ln b.den ≤ _; omega)
  have o1 := qone_sp (a.den : Int)
  have o2 := qone_sp (b.den : Int)
  have m1 := BMul_sp a.num b.den (by omega) (by show ln b.den ≤ _; omega)
  have m2 := BMul_sp b.num a.den (by omega) (by show ln a.den ≤ _; omega)
  have m3 := BMul_sp a.den b.den (by show ln a.den ≤ _; omega) (by show ln b.den ≤ _; omega)
  have l1 : ln (a.num * b.den).natAbs ≤ 80000 := by
    rw [Int.natAbs_mul]
    have := ln_mul a.num.natAbs b.den
    show ln (a.num.natAbs * b.den) ≤ _
    omega
  have l2 : ln (b.num * a.den).natAbs ≤ 80000 := by
    rw [Int.natAbs_mul]
    have := ln_mul b.num.natAbs a.den
    show ln (b.num.natAbs * a.den) ≤ _
    omega
  have l3 : ln ((a.den : Int) * b.den).natAbs ≤ 80000 := by
    rw [natAbs_den]
    have := ln_mul a.den b.den
    omega
  have l4 : ln (a.num * b.den + b.num * a.den).natAbs ≤ 80001 := by
    have h := ln_mono (Int.natAbs_add_le (a.num * b.den) (b.num * a.den))
    have := ln_add (a.num * b.den).natAbs (b.num * a.den).natAbs
    omega
  have s := Add_sp (a.num * b.den) (b.num * a.den) (by omega) (by omega)
  have o := over_sp (a.num * b.den + b.num * a.den) ((a.den : Int) * b.den) (by omega) (by omega)
  rw [← rat_add] at o
  by_cases h1 : (a.den : Int) = 1
  · by_cases h2 : (b.den : Int) = 1
    · have s2 := Add_sp a.num b.num (by omega) (by omega)
      have oo := Of_sp 1 (by omega) (by omega)
      obtain ⟨e1, e2⟩ := rat_add_one (a := a) (b := b) (by omega) (by omega)
      clear m1 m2 m3 s o l1 l2 l3 l4
      refine fn_sp (C := CX) [] [] tysX_ok mixed Tryz.func28 rfl (by kernel_rfl) Tryz.ntmps28 rfl rfl ?_
      repeat' ((conv => whnf); first | refine Je ?_ | refine Jf ?_ | refine Jy d1 ?_ | refine Jy d2 ?_ | refine Jy o1 ?_ | refine Jy o2 ?_ | refine Jy s2 ?_ | refine Jy oo ?_)
      refine ⟨⟨_, _, rfl, rfl, ?_⟩⟩
      exact qA_mk e1.symm (by rw [e2]; rfl)
    · refine fn_sp (C := CX) [] [] tysX_ok mixed Tryz.func28 rfl (by kernel_rfl) Tryz.ntmps28 rfl rfl ?_
      repeat' ((conv => whnf); first | refine Je ?_ | refine Jf ?_ | refine Ji ?_ | refine Jj ?_ | refine Jk rfl ?_ | refine Jl ?_ | refine Jo ?_ | refine Jp ?_ | refine Jq rfl ?_ | refine Jy d1 ?_ | refine Jy d2 ?_ | refine Jy o1 ?_ | refine Jy o2 ?_ | refine Jy m1 ?_ | refine Jy m2 ?_ | refine Jy m3 ?_ | refine Jy s ?_ | refine Jy o ?_)
      refine ⟨⟨_, _, rfl, rfl, ?_⟩⟩
      exact AvLe.refl _
  · refine fn_sp (C := CX) [] [] tysX_ok mixed Tryz.func28 rfl (by kernel_rfl) Tryz.ntmps28 rfl rfl ?_
    repeat' ((conv => whnf); first | refine Jf ?_ | refine Ji ?_ | refine Jj ?_ | refine Jk rfl ?_ | refine Jl ?_ | refine Jo ?_ | refine Jp ?_ | refine Jq rfl ?_ | refine Jy d1 ?_ | refine Jy d2 ?_ | refine Jy o1 ?_ | refine Jy o2 ?_ | refine Jy m1 ?_ | refine Jy m2 ?_ | refine Jy m3 ?_ | refine Jy s ?_ | refine Jy o ?_)
    refine ⟨⟨_, _, rfl, rfl, ?_⟩⟩
    exact AvLe.refl _
theorem RSub_sp (a b : Rat) (ha : QB 40000 a) (hb : QB 40000 b) : Sp CX 29 [qA a, qA b] (qA (a - b)) := by
  have n := RNeg_sp b (hb.mono (by omega))
  have s := RAdd_sp a (-b) ha hb.neg
  rw [← rat_sub] at s
  refine fn_sp (C := CX) [] [] tysX_ok mixed Tryz.func29 rfl (by kernel_rfl) Tryz.ntmps29 rfl rfl ?_
  repeat' ((conv => whnf); first | refine Ji ?_ | refine Jj ?_ | refine Jk rfl ?_ | refine Jy n ?_ | refine Jy s ?_)
  refine ⟨⟨_, _, rfl, rfl, ?_⟩⟩
  exact AvLe.refl _
theorem RMul_sp (a b : Rat) (ha : QB 40000 a) (hb : QB 40000 b) : Sp CX 38 [qA a, qA b] (qA (a * b)) := by
  have a1 := ha.1; have a2 := ha.2; have b1 := hb.1; have b2 := hb.2
  have m1 := BMul_sp a.num b.num (by omega) (by omega)
  have m3 := BMul_sp a.den b.den (by show ln a.den ≤ _; omega) (by show ln b.den ≤ _; omega)
  have l1 : ln (a.num * b.num).natAbs ≤ 80000 := by
    rw [Int.natAbs_mul]
    have := ln_mul a.num.natAbs b.num.natAbs
    omega
  have l3 : ln ((a.den : Int) * b.den).natAbs ≤ 80000 := by
    rw [natAbs_den]
    have := ln_mul a.den b.den
    omega
  have o := over_sp (a.num * b.num) ((a.den : Int) * b.den) (by omega) (by omega)
  rw [← rat_mul] at o
  refine fn_sp (C := CX) [] [] tysX_ok mixed Tryz.func38 rfl (by kernel_rfl) Tryz.ntmps38 rfl rfl ?_
  repeat' ((conv => whnf); first | refine Ji ?_ | refine Jj ?_ | refine Jk rfl ?_ | refine Jy m1 ?_ | refine Jy m3 ?_ | refine Jy o ?_)
  refine ⟨⟨_, _, rfl, rfl, ?_⟩⟩
  exact AvLe.refl _
theorem SameRat_sp (q : Rat) (h : QB 1000000 q) : Sp CX 8 [qA q, qA q] (bool true) := by
  have s1 := SameInt_sp q.num h.1
  have s2 := SameInt_sp (q.den : Int) h.2
  refine fn_sp (C := CX) [] [] tysX_ok mixed Tryz.func8 rfl (by kernel_rfl) Tryz.ntmps8 rfl rfl ?_
  repeat' ((conv => whnf); first | refine Je ?_ | refine Jy s1 ?_ | refine Jy s2 ?_)
  refine ⟨⟨_, _, rfl, rfl, ?_⟩⟩
  exact AvLe.refl _
end Go.Proofs.YtdjfndfkjbjcpaaGreatDoor

