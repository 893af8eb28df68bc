/- Own texts joined: BnA, BnB, BnC, BnD, BnE, BnF, BnG, BnH. -/
import Derived.Test.YtdjfndfkjbjcpaaGreatDoorSpA
import Derived.Test.YtdjfndfkjbjcpaaGreatDoorNumD
/- Bigints in letters: digits; trimmed, signed, wide, Of, Sign, compare. -/
namespace Go.Proofs.YtdjfndfkjbjcpaaGreatDoor
open Go Go.RowKit Go.VG HP
def uL (z : Nat) (_ : Nat) : Leaf := .x (.int .u32 z)
def dsL (x n : Nat) : Leaf := .sl 1 Nat uL (dg x) n
def dsA (x n : Nat) : AV := .v (.c (dsL x n))
def zS (s : Bool) (x : Nat) : V1 := .agg [.x (.bool (s && decide (0 < ln x))), dsL x (ln x)]
def zV (z : Int) : V1 := .agg [.x (.bool (decide (z < 0))), dsL z.natAbs (ln z.natAbs)]
def zA (z : Int) : AV := .v (zV z)
theorem zS_eq (s : Bool) (x : Nat) : zS s x = zV (if s then -(x : Int) else x) := by
  unfold zS zV
  cases s with
  | true =>
    rw [if_pos rfl, Int.natAbs_neg, Int.natAbs_natCast, Bool.true_and]
    have h : decide (0 < ln x) = decide (-(x : Int) < 0) := by
      rw [decide_eq_decide]
      have := (len_ln x).zero_iff
      omega
    rw [h]
  | false =>
    rw [if_neg Bool.false_ne_true, Int.natAbs_natCast, Bool.false_and, decide_eq_false (by omega)]
theorem dsL_le {x n : Nat} {Z : Nat → Nat} (h : ∀ i, i < n → Z i = dg x i) : LeafLe (.sl 1 Nat uL Z n) (dsL x n) := .sl fun i j hi _ => .int (by rw [h i hi])
set_option maxHeartbeats 4000000 in
theorem trimmed_sp (x n : Nat) (h : ln x ≤ n) (hn : n ≤ 1099511627776) : Sp CX 95 [dsA x n] (dsA x (ln x)) := by
  refine fn_sp (C := CX) [] [] tysX_ok mixed Tryz.func95 rfl (by kernel_rfl) Tryz.ntmps95 rfl rfl ?_
  repeat' ((conv => whnf); first | refine Ja ?_)
  refine ⟨⟨Nat, fun k => ⟨[(0, dsA x k)], [], 0⟩, fun k => ln x ≤ k ∧ k ≤ n, fun k => k, ⟨n, [], ⟨h, Nat.le_refl _⟩, Ent.g⟩, ?_⟩⟩
  rintro k ⟨k1, k2⟩
  by_cases h0 : k = 0
  · subst h0
    obtain e : ln x = 0 := by omega
    rw [e]
    repeat' ((conv => whnf); first | refine Jf ?_)
    refine ⟨⟨_, _, rfl, rfl, ?_⟩⟩
    exact AvLe.refl _
  · obtain ⟨q, rfl⟩ : ∃ q, k = q + 1 := ⟨k - 1, by omega⟩
    by_cases hd : dg x q = 0
    · have hle : ln x ≤ q := by
        apply Nat.le_of_not_lt
        intro hlt
        have hx : x ≠ 0 := fun e => by rw [e, ln_zero] at hlt; omega
        have := ln_top hx
        rw [show ln x - 1 = q by omega] at this
        exact this hd
      repeat' ((conv => whnf); first | (refine Idx.mk ⟨q, by omega, by omega, ?_⟩) | refine Jb ?_ | refine Je ?_ | (refine SlOb.mk ⟨0, q, .inl ⟨rfl, rfl⟩, .inr ⟨.i64, congrArg (fun z => some (int .i64 z)) (by omega)⟩, by omega, by omega, ?_⟩))
      exact ⟨q, [], ⟨hle, by omega⟩, by show q < q + 1; omega, by
        refine ⟨?_, .nil, rfl⟩
        refine TmE.cons (.leaf ?_) .nil
        exact dsL_le fun i _ => by unfold shiftZ; rw [Nat.zero_add]⟩
    · have hge : ln x = q + 1 := by
        apply Nat.le_antisymm k1
        apply Nat.lt_of_not_le
        intro hle
        exact hd (dg_out hle)
      repeat' ((conv => whnf); first | (refine Idx.mk ⟨q, by omega, by omega, ?_⟩) | refine Jb ?_ | refine Je ?_ | refine Jf ?_)
      refine ⟨⟨_, _, rfl, rfl, ?_⟩⟩
      rw [hge]
      exact AvLe.refl _
theorem zS_le {s : Bool} {x : Nat} {b : Bool} (h : b = (s && decide (0 < ln x))) : AvLe (.v (.agg [.x (.bool b), dsL x (ln x)])) (.v (zS s x)) := .agg (.cons (.bool h) (.cons (.refl _) .nil))
set_option maxHeartbeats 4000000 in
theorem signed_sp (s : Bool) (x n : Nat) (h : ln x ≤ n) (hn : n ≤ 1099511627776) : Sp CX 81 [bool s, dsA x n] (.v (zS s x)) := by
  have s1 := trimmed_sp x n h hn
  cases s with
  | true =>
    refine fn_sp (C := CX) [] [] tysX_ok mixed Tryz.func81 rfl (by kernel_rfl) Tryz.ntmps81 rfl rfl ?_
    repeat' ((conv => whnf); first | refine Je ?_ | refine Jy s1 ?_)
    refine ⟨⟨_, _, rfl, rfl, ?_⟩⟩
    exact zS_le (by rw [Bool.true_and, decide_eq_decide]; omega)
  | false =>
    refine fn_sp (C := CX) [] [] tysX_ok mixed Tryz.func81 rfl (by kernel_rfl) Tryz.ntmps81 rfl rfl ?_
    repeat' ((conv => whnf); first | refine Jf ?_ | refine Jy s1 ?_)
    refine ⟨⟨_, _, rfl, rfl, ?_⟩⟩
    exact zS_le rfl
theorem build1 {x : Nat} {a : Int} (h : a = dg x 0) : LeafLe (.sl 1 Nat (fun i j => getL [.x (.int .u32 a)] (i * 1 + j)) id 1) (dsL x 1) := .sl fun i j hi hj => by
  obtain rfl : i = 0 := by omega
  obtain rfl : j = 0 := by omega
  exact .int h
theorem build2 {x : Nat} {a b : Int} (h : a = dg x 0) (k : b = dg x 1) : LeafLe (.sl 1 Nat (fun i j => getL [.x (.int .u32 a), .x (.int .u32 b)] (i * 1 + j)) id 2) (dsL x 2) := .sl fun i j hi hj => by
  obtain rfl : j = 0 := by omega
  rcases (show i = 0 ∨ i = 1 by omega) with rfl | rfl
  · exact .int h
  · exact .int k
set_option maxHeartbeats 4000000 in
theorem wide_sp (N : Nat) (hN : N < 18446744073709551616) : Sp CX 82 [int .u64 N] (dsA N (ln N)) := by
  by_cases h0 : N = 0
  · subst h0
    refine fn_sp (C := CX) [] [] tysX_ok mixed Tryz.func82 rfl (by kernel_rfl) Tryz.ntmps82 rfl rfl ?_
    repeat' ((conv => whnf); first | refine Je ?_)
    refine ⟨⟨_, _, rfl, rfl, ?_⟩⟩
    exact .leaf .nil
  · by_cases h1 : N < 4294967296
    · have e := (len_one h0 h1).eq
      rw [← e]
      refine fn_sp (C := CX) [] [] tysX_ok mixed Tryz.func82 rfl (by kernel_rfl) Tryz.ntmps82 rfl rfl ?_
      repeat' ((conv => whnf); first | (refine Cases.y ?_ (decide_eq_true (by omega))) | (refine Cases.n ?_ (decide_eq_false (by omega))) | refine Jb ?_)
      refine ⟨⟨_, _, rfl, rfl, ?_⟩⟩
      exact .leaf (build1 (by rw [dg0]; omega))
    · have e := (len_two (show W32 ≤ N by rw [w32_eq]; omega) hN).eq
      rw [← e]
      refine fn_sp (C := CX) [] [] tysX_ok mixed Tryz.func82 rfl (by kernel_rfl) Tryz.ntmps82 rfl rfl ?_
      repeat' ((conv => whnf); first | (refine Cases.y ?_ (decide_eq_true (by omega))) | (refine Cases.n ?_ (decide_eq_false (by omega))) | refine Jb ?_ | refine Jc ?_)
      refine ⟨⟨_, _, rfl, rfl, ?_⟩⟩
      exact .leaf (build2 (by rw [dg0]; omega) (by rw [dg1 hN]; omega))
theorem ln_two {N : Nat} (h : N < 18446744073709551616) : ln N ≤ 2 := ln_le (by rw [show W32 ^ 2 = 18446744073709551616 by decide]; exact h)
set_option maxHeartbeats 4000000 in
theorem Of_sp (n : Int) (h1 : -9223372036854775808 ≤ n) (h2 : n ≤ 9223372036854775807) : Sp CX 35 [int .i64 n] (zA n) := by
  have s1 := wide_sp n.natAbs (by omega)
  have hl := ln_two (N := n.natAbs) (by omega)
  have s2 := fun s => signed_sp s n.natAbs (ln n.natAbs) (Nat.le_refl _) (by omega)
  have e : ∀ s : Bool, (s = true ↔ n < 0) → zS s n.natAbs = zV n := fun s hs => by
    rw [zS_eq]
    congr 1
    by_cases h : n < 0
    · rw [if_pos (hs.2 h)]; omega
    · rw [if_neg (fun x => h (hs.1 x))]; omega
  by_cases h : n < 0
  · have e' := e true ⟨fun _ => h, fun _ => rfl⟩
    refine fn_sp (C := CX) [] [] tysX_ok mixed Tryz.func35 rfl (by kernel_rfl) Tryz.ntmps35 rfl rfl ?_
    repeat' ((conv => whnf); first | refine Jd ?_ | refine Je ?_ | refine Sp.call (s1) (.cons (.int (by omega)) .nil) rfl (AvLe.refl _) ?_ | refine Jy (s2 true) ?_)
    refine ⟨⟨_, _, rfl, rfl, ?_⟩⟩
    exact .eq (congrArg AV.v e')
  · have e' := e false ⟨fun x => (by cases x), fun x => absurd x h⟩
    refine fn_sp (C := CX) [] [] tysX_ok mixed Tryz.func35 rfl (by kernel_rfl) Tryz.ntmps35 rfl rfl ?_
    repeat' ((conv => whnf); first | refine Jb ?_ | refine Jf ?_ | refine Sp.call (s1) (.cons (.int (by omega)) .nil) rfl (AvLe.refl _) ?_ | refine Jy (s2 false) ?_)
    refine ⟨⟨_, _, rfl, rfl, ?_⟩⟩
    exact .eq (congrArg AV.v e')
theorem sign_sp (n : Int) : Sp CX 156 [int .i64 n] (int .i64 (if n < 0 then -1 else if 0 < n then 1 else 0)) := by
  by_cases h : n < 0
  · rw [if_pos h]
    refine fn_sp (C := CX) [] [] tysX_ok mixed Tryz.func156 rfl (by kernel_rfl) Tryz.ntmps156 rfl rfl ?_
    repeat' ((conv => whnf); first | refine Je ?_)
    refine ⟨⟨_, _, rfl, rfl, ?_⟩⟩
    exact AvLe.refl _
  · rw [if_neg h]
    by_cases h2 : 0 < n
    · rw [if_pos h2]
      refine fn_sp (C := CX) [] [] tysX_ok mixed Tryz.func156 rfl (by kernel_rfl) Tryz.ntmps156 rfl rfl ?_
      repeat' ((conv => whnf); first | refine Je ?_ | refine Jf ?_)
      refine ⟨⟨_, _, rfl, rfl, ?_⟩⟩
      exact AvLe.refl _
    · rw [if_neg h2]
      refine fn_sp (C := CX) [] [] tysX_ok mixed Tryz.func156 rfl (by kernel_rfl) Tryz.ntmps156 rfl rfl ?_
      repeat' ((conv => whnf); first | refine Jf ?_)
      refine ⟨⟨_, _, rfl, rfl, ?_⟩⟩
      exact AvLe.refl _
def cmpZ (x y : Nat) : Int := if x < y then -1 else if x = y then 0 else 1
set_option maxHeartbeats 4000000 in
theorem compare_sp (x y : Nat) (hx : ln x ≤ 1000000) (hy : ln y ≤ 1000000) : Sp CX 131 [dsA x (ln x), dsA y (ln y)] (int .i64 (cmpZ x y)) := by
  by_cases hl : ln x = ln y
  · refine fn_sp (C := CX) [] [] tysX_ok mixed Tryz.func131 rfl (by kernel_rfl) Tryz.ntmps131 rfl rfl ?_
    rw [hl]
    repeat' ((conv => whnf); first | refine Jb ?_ | refine Jf ?_)
    refine ⟨⟨Nat, fun k => ⟨[(0, dsA x (ln y)), (1, dsA y (ln y)), (5, int .i64 ((k : Int) - 1))], [], 0⟩, fun k => k ≤ ln y ∧ DAgr x y k, fun k => k, ⟨ln y, [], ⟨Nat.le_refl _, agr_start hl rfl⟩, Ent.g⟩, ?_⟩⟩
    rintro k ⟨k1, k2⟩
    by_cases h0 : k = 0
    · subst h0
      have e := agr_zero k2
      have ec : cmpZ x y = 0 := by unfold cmpZ; rw [if_neg (by omega), if_pos e]
      rw [ec]
      repeat' ((conv => whnf); first | refine Jf ?_)
      refine ⟨⟨_, _, rfl, rfl, ?_⟩⟩
      exact AvLe.refl _
    · obtain ⟨q, rfl⟩ : ∃ q, k = q + 1 := ⟨k - 1, by omega⟩
      by_cases hd : dg x q = dg y q
      · repeat' ((conv => whnf); first | (refine Idx.mk ⟨q, by omega, by omega, ?_⟩) | refine Jb ?_ | refine Je ?_ | refine Jf ?_ | refine Ji ?_ | refine Jj ?_ | refine Jk rfl ?_)
        exact ⟨q, [], ⟨by omega, agr_down k2 hd⟩, by show q < q + 1; omega, Ent.g⟩
      · by_cases hlt : dg x q < dg y q
        · have hxy := agr_lt k2 hlt
          have ec : cmpZ x y = -1 := by unfold cmpZ; rw [if_pos hxy]
          rw [ec]
          repeat' ((conv => whnf); first | (refine Idx.mk ⟨q, by omega, by omega, ?_⟩) | refine Je ?_ | refine Ji ?_ | refine Jj ?_ | refine Jk rfl ?_)
          refine ⟨⟨_, _, rfl, rfl, ?_⟩⟩
          exact AvLe.refl _
        · have hxy := agr_lt k2.symm (show dg y q < dg x q by omega)
          have ec : cmpZ x y = 1 := by unfold cmpZ; rw [if_neg (by omega), if_neg (by omega)]
          rw [ec]
          repeat' ((conv => whnf); first | (refine Idx.mk ⟨q, by omega, by omega, ?_⟩) | refine Je ?_ | refine Jf ?_ | refine Ji ?_ | refine Jj ?_ | refine Jk rfl ?_)
          refine ⟨⟨_, _, rfl, rfl, ?_⟩⟩
          exact AvLe.refl _
  · have s1 := sign_sp ((ln x : Int) - ln y)
    have e : (if (ln x : Int) - ln y < 0 then (-1 : Int) else if 0 < (ln x : Int) - ln y then 1 else 0) = cmpZ x y := by
      unfold cmpZ
      by_cases h : ln x < ln y
      · rw [if_pos (by omega), if_pos (lt_of_ln h)]
      · have := lt_of_ln (show ln y < ln x by omega)
        rw [if_neg (by omega), if_pos (by omega), if_neg (by omega), if_neg (by omega)]
    rw [e] at s1
    refine fn_sp (C := CX) [] [] tysX_ok mixed Tryz.func131 rfl (by kernel_rfl) Tryz.ntmps131 rfl rfl ?_
    repeat' ((conv => whnf); first | refine Jb ?_ | refine Je ?_ | refine Jy s1 ?_)
    refine ⟨⟨_, _, rfl, rfl, ?_⟩⟩
    exact AvLe.refl _
set_option maxHeartbeats 4000000 in
theorem Sign_sp (z : Int) (h : ln z.natAbs ≤ 1000000) : Sp CX 67 [zA z] (int .i64 (if z < 0 then -1 else if 0 < z then 1 else 0)) := by
  have s1 := trimmed_sp z.natAbs (ln z.natAbs) (Nat.le_refl _) (by omega)
  have hz := (len_ln z.natAbs).zero_iff
  by_cases h0 : z = 0
  · have e : ln z.natAbs = 0 := by omega
    rw [if_neg (by omega), if_neg (by omega)]
    refine fn_sp (C := CX) [] [] tysX_ok mixed Tryz.func67 rfl (by kernel_rfl) Tryz.ntmps67 rfl rfl ?_
    repeat' ((conv => whnf); first | refine Je ?_ | refine Jy s1 ?_)
    refine ⟨⟨_, _, rfl, rfl, ?_⟩⟩
    exact AvLe.refl _
  · have e : ln z.natAbs ≠ 0 := by omega
    by_cases h1 : z < 0
    · rw [if_pos h1]
      refine fn_sp (C := CX) [] [] tysX_ok mixed Tryz.func67 rfl (by kernel_rfl) Tryz.ntmps67 rfl rfl ?_
      repeat' ((conv => whnf); first | refine Je ?_ | refine Jf ?_ | refine Jy s1 ?_)
      refine ⟨⟨_, _, rfl, rfl, ?_⟩⟩
      exact AvLe.refl _
    · rw [if_neg h1, if_pos (by omega)]
      refine fn_sp (C := CX) [] [] tysX_ok mixed Tryz.func67 rfl (by kernel_rfl) Tryz.ntmps67 rfl rfl ?_
      repeat' ((conv => whnf); first | refine Jf ?_ | refine Jy s1 ?_)
      refine ⟨⟨_, _, rfl, rfl, ?_⟩⟩
      exact AvLe.refl _
end Go.Proofs.YtdjfndfkjbjcpaaGreatDoor

/- Bigints in letters: plus, less, add, Add. -/
namespace Go.Proofs.YtdjfndfkjbjcpaaGreatDoor
open Go Go.RowKit Go.VG HP
theorem badd32_any (x y c : Nat) (w : World) (hx : x < 4294967296) (hy : y < 4294967296) (hc : c ≤ 1) :
    Calls Tryz.prog 155 #[.int .u32 x, .int .u32 y, .int .u32 c] w fun e w' => e = .returned (.tuple #[.int .u32 (((x + y + c) % 4294967296 : Nat) : Int), .int .u32 (((x + y + c) / 4294967296 : Nat) : Int)]) ∧ w = w' := by
  have e1 : (((x + y + c) % 4294967296 : Nat) : Int) = ((x : Int) + y + c) % 4294967296 := by omega
  have e2 : (((x + y + c) / 4294967296 : Nat) : Int) = ((x : Int) + y + c) / 4294967296 := by omega
  have e3 : ((x : Int) + y + c) / 4294967296 % 4294967296 = ((x : Int) + y + c) / 4294967296 := by omega
  go_enter Tryz.func155, Tryz.ntmps155
  go_wp2
  go_ret2
  exact ⟨by rw [e1, e2]; first | rfl | (congr 4; omega), rfl⟩
theorem Add32_sp (x y c : Nat) (hx : x < 4294967296) (hy : y < 4294967296) (hc : c ≤ 1) : Sp CX 155 [int .u32 x, int .u32 y, int .u32 c] (.tup [.c (.x (.int .u32 ((x + y + c) % 4294967296 : Nat))), .c (.x (.int .u32 ((x + y + c) / 4294967296 : Nat)))]) := by
  refine .of_val (vs0 := [.int .u32 x, .int .u32 y, .int .u32 c]) (callOk Tryz.func155 (by kernel_rfl) (by kernel_rfl)) rfl (fun ρ w vs h => ?_) (fun _ _ => ⟨[_, _], rfl, ⟨rfl, rfl⟩, ⟨rfl, rfl⟩, trivial⟩) fun w hG => (badd32_any x y c w hx hy hc).mono fun _ _ ⟨h1, h2⟩ => ⟨h1, h2 ▸ Below.refl _ _⟩
  match vs, h with
  | [_, _, _], ⟨⟨_, rfl⟩, ⟨_, rfl⟩, ⟨_, rfl⟩, _⟩ => rfl
theorem bv_back (v : BitVec 32) : BitVec.ofInt 32 ((v.toNat : Nat) : Int) = v := by
  apply BitVec.eq_of_toNat_eq
  simp
theorem bv_wrap (v : BitVec 32) : IntKind.u32.wrap ((v.toNat : Nat) : Int) = ((v.toNat : Nat) : Int) := by
  have := v.isLt
  rw [IntKind.wrap_u32]
  omega
theorem bits_and (a b : BitVec 32) : bits .and .u32 ((a.toNat : Nat) : Int) ((b.toNat : Nat) : Int) = (((a &&& b).toNat : Nat) : Int) := by
  show IntKind.u32.wrap (((BitVec.ofInt 32 ((a.toNat : Nat) : Int) &&& BitVec.ofInt 32 ((b.toNat : Nat) : Int)).toNat : Nat) : Int) = _
  rw [bv_back, bv_back, bv_wrap]
theorem bits_or (a b : BitVec 32) : bits .or .u32 ((a.toNat : Nat) : Int) ((b.toNat : Nat) : Int) = (((a ||| b).toNat : Nat) : Int) := by
  show IntKind.u32.wrap (((BitVec.ofInt 32 ((a.toNat : Nat) : Int) ||| BitVec.ofInt 32 ((b.toNat : Nat) : Int)).toNat : Nat) : Int) = _
  rw [bv_back, bv_back, bv_wrap]
theorem bits_xor (a b : BitVec 32) : bits .xor .u32 ((a.toNat : Nat) : Int) ((b.toNat : Nat) : Int) = (((a ^^^ b).toNat : Nat) : Int) := by
  show IntKind.u32.wrap (((BitVec.ofInt 32 ((a.toNat : Nat) : Int) ^^^ BitVec.ofInt 32 ((b.toNat : Nat) : Int)).toNat : Nat) : Int) = _
  rw [bv_back, bv_back, bv_wrap]
theorem sub_bits (x y c : Nat) (hx : x < 4294967296) (hy : y < 4294967296) (hc : c ≤ 1) (d : Nat) (hd : d = (x + 8589934592 - y - c) % 4294967296) :
    bits .or .u32 (bits .and .u32 (bits .xor .u32 IntKind.u32.max x) y) (bits .and .u32 (bits .xor .u32 IntKind.u32.max (bits .xor .u32 x y)) d) / 2147483648 = ((if x < y + c then 1 else 0 : Nat) : Int) := by
  have hn : ∀ z : Nat, z < 4294967296 → ((z : Nat) : Int) = (((BitVec.ofNat 32 z).toNat : Nat) : Int) := fun z hz => by rw [BitVec.toNat_ofNat, Nat.mod_eq_of_lt hz]
  have hm : IntKind.u32.max = (((BitVec.allOnes 32).toNat : Nat) : Int) := by decide +kernel
  rw [hm, hn x hx, hn y hy, hn d (by omega), bits_xor, bits_and, bits_xor, bits_xor, bits_and, bits_or]
  simp only [BitVec.allOnes_xor]
  rw [← borrow_bit x y c hx hy hc d hd]
  exact (Int.natCast_ediv _ _).symm
theorem sub32_any (x y c b d : Nat) (w : World) (hd : ((x : Int) - y - c) % 4294967296 = d)
    (hb : bits .or .u32 (bits .and .u32 (bits .xor .u32 IntKind.u32.max x) y) (bits .and .u32 (bits .xor .u32 IntKind.u32.max (bits .xor .u32 x y)) d) / 2147483648 = b) :
    Calls Tryz.prog 157 #[.int .u32 x, .int .u32 y, .int .u32 c] w fun e w' => e = .returned (.tuple #[.int .u32 d, .int .u32 b]) ∧ w = w' := by
  go_enter Tryz.func157, Tryz.ntmps157
  go_wp2
  go_ret2
  exact ⟨by first | rfl | (rw [← hb, ← hd]; rfl), rfl⟩
theorem Sub32_sp (x y c : Nat) (hx : x < 4294967296) (hy : y < 4294967296) (hc : c ≤ 1) : Sp CX 157 [int .u32 x, int .u32 y, int .u32 c] (.tup [.c (.x (.int .u32 ((x + 8589934592 - y - c) % 4294967296 : Nat))), .c (.x (.int .u32 (if x < y + c then 1 else 0 : Nat)))]) := by
  refine .of_val (vs0 := [.int .u32 x, .int .u32 y, .int .u32 c]) (callOk Tryz.func157 (by kernel_rfl) (by kernel_rfl)) rfl (fun ρ w vs h => ?_) (fun _ _ => ⟨[_, _], rfl, ⟨rfl, rfl⟩, ⟨rfl, rfl⟩, trivial⟩) fun w hG => (sub32_any x y c _ _ w (by omega) (sub_bits x y c hx hy hc _ rfl)).mono fun _ _ ⟨h1, h2⟩ => ⟨h1, h2 ▸ Below.refl _ _⟩
  match vs, h with
  | [_, _, _], ⟨⟨_, rfl⟩, ⟨_, rfl⟩, ⟨_, rfl⟩, _⟩ => rfl
end Go.Proofs.YtdjfndfkjbjcpaaGreatDoor

/- Bigints in letters: plus, less, add, Add. -/
namespace Go.Proofs.YtdjfndfkjbjcpaaGreatDoor
open Go Go.RowKit Go.VG HP
theorem mk_u32 (m : Nat) : ∀ i j, i < m → j < 1 → uL ((fun _ : Nat => 0) i) j = .x (([.int .u32 0] : List Value).getD j undef) := fun i j _ hj => by
  obtain rfl : j = 0 := by omega
  rfl
theorem dg32 (x i : Nat) : dg x i < 4294967296 := dg_lt x i
theorem set_lt {H : Nat → Nat} {i d : Nat} (h : ∀ j, j < i → H j < W32) (hd : d < 4294967296) : ∀ j, j < i + 1 → setZ Nat H i d j < W32 := fun j hj => by
  unfold setZ
  split
  · exact hd
  · exact h j (by omega)
theorem valF_set (H : Nat → Nat) (i d : Nat) : valF (setZ Nat H i d) i = valF H i := valF_congr i fun j hj => by unfold setZ; rw [if_neg (by omega)]
theorem set_at (H : Nat → Nat) (i d : Nat) : setZ Nat H i d i = d := by unfold setZ; rw [if_pos rfl]
structure PlusI (x y i c : Nat) (H : Nat → Nat) : Prop where
  c1 : c ≤ 1
  lt : ∀ j, j < i → H j < W32
  v : valF H i + c * W32 ^ i = valF (dg x) i + valF (dg y) i
theorem PlusI.step {x y i c : Nat} {H : Nat → Nat} (h : PlusI x y i c H) : PlusI x y (i + 1) ((dg x i + dg y i + c) / 4294967296) (setZ Nat H i ((dg x i + dg y i + c) % 4294967296)) := by
  have h1 := dg32 x i
  have h2 := dg32 y i
  have h3 := h.c1
  refine ⟨by omega, set_lt h.lt (by omega), ?_⟩
  refine add_step (a := dg x) (b := dg y) (c := c) (s := dg x i + dg y i + c) ?_ rfl (by rw [w32_eq]; omega) (set_at _ _ _)
  rw [valF_set]
  exact h.v
theorem PlusI.fin {x y n c : Nat} {H : Nat → Nat} (h : PlusI x y n c H) (hx : ln x ≤ n) (hy : ln y ≤ n) : ∀ j, j < n + 1 → setZ Nat H n c j = dg (x + y) j := fun j hj => by
  have hc := h.c1
  refine dg_of (n := n + 1) ?_ (set_lt h.lt (by omega)) hj
  rw [valF, valF_set, set_at]
  exact add_end h.v (Nat.lt_of_lt_of_le (lt_ln x) (w32_mono hx)) (Nat.lt_of_lt_of_le (lt_ln y) (w32_mono hy))
set_option maxHeartbeats 8000000 in
set_option maxRecDepth 20000 in
theorem plus_core (x y : Nat) (hl : ln y ≤ ln x) (hx : ln x ≤ 1000000) : Sp CX 130 [dsA x (ln x), dsA y (ln y)] (dsA (x + y) (ln x + 1)) := by
  refine fn_sp (C := CX) [] [0] tysX_ok mixed Tryz.func130 rfl (by kernel_rfl) Tryz.ntmps130 rfl rfl ?_
  repeat' ((conv => whnf); first | (refine Ob.mk ⟨rfl, by omega, by decide⟩ ?_) | refine Jb ?_ | refine Jf ?_)
  refine ⟨⟨Nat, uL, fun _ => 0, ln x + 1, by push_cast; rfl, mk_u32 _, ?_⟩⟩
  repeat' ((conv => whnf); first | refine Ja ?_)
  refine ⟨⟨Nat × Nat × (Nat → Nat), fun (i, c, H) => ⟨[(0, dsA x (ln x)), (1, dsA y (ln y)), (5, .v (.c (.row 0))), (6, int .u32 c), (21, dsA x (ln x)), (22, int .i64 (ln x)), (23, int .i64 i)], [(0, .rw 1 60 false Nat uL H (ln x + 1))], 1⟩, fun (i, c, H) => i ≤ ln x ∧ PlusI x y i c H, fun (i, _, _) => ln x - i, ⟨(0, 0, fun _ => 0), [], ⟨Nat.zero_le _, ⟨by omega, fun j hj => absurd hj (Nat.not_lt_zero _), rfl⟩⟩, Ent.g⟩, ?_⟩⟩
  rintro ⟨i, c, H⟩ ⟨i1, hI⟩
  have hc := hI.c1
  by_cases hi : i < ln x
  · have hn := hI.step
    by_cases hj : i < ln y
    · have s := Add32_sp (dg x i) (dg y i) c (dg32 x i) (dg32 y i) hc
      clear hI
      repeat' ((conv => whnf); first | refine Ja ?_ | refine Je ?_ | refine Jg rfl ?_ | refine Jy s ?_)
      refine ⟨⟨_, rfl, ?_⟩⟩
      repeat' ((conv => whnf); first | refine Jb ?_)
      exact ⟨(i + 1, _, _), [], ⟨hi, hn⟩, by show ln x - (i + 1) < ln x - i; omega, Ent.g⟩
    · have s := Add32_sp (dg x i) (dg y i) c (dg32 x i) (dg32 y i) hc
      have e0 : dg y i = 0 := dg_out (by omega)
      rw [e0] at s hn
      clear hI
      repeat' ((conv => whnf); first | refine Ja ?_ | refine Je ?_ | refine Jf ?_ | refine Jg rfl ?_ | refine Jy s ?_)
      refine ⟨⟨_, rfl, ?_⟩⟩
      repeat' ((conv => whnf); first | refine Jb ?_)
      exact ⟨(i + 1, _, _), [], ⟨hi, hn⟩, by show ln x - (i + 1) < ln x - i; omega, Ent.g⟩
  · obtain rfl : i = ln x := by omega
    have hf := hI.fin (Nat.le_refl _) hl
    repeat' ((conv => whnf); first | refine Ja ?_ | refine Jf ?_ | refine Jg rfl ?_)
    refine ⟨⟨_, rfl, ?_⟩⟩
    repeat' ((conv => whnf); first | refine Ja ?_)
    refine ⟨⟨_, _, rfl, rfl, ?_⟩⟩
    exact .leaf (dsL_le hf)
set_option maxHeartbeats 8000000 in
set_option maxRecDepth 20000 in
theorem plus_swap (x y : Nat) (hl : ln y < ln x) (hx : ln x ≤ 1000000) : Sp CX 130 [dsA y (ln y), dsA x (ln x)] (dsA (x + y) (ln x + 1)) := by
  refine fn_sp (C := CX) [] [0] tysX_ok mixed Tryz.func130 rfl (by kernel_rfl) Tryz.ntmps130 rfl rfl ?_
  repeat' ((conv => whnf); first | (refine Ob.mk ⟨rfl, by omega, by decide⟩ ?_) | refine Jb ?_ | refine Je ?_)
  refine ⟨⟨Nat, uL, fun _ => 0, ln x + 1, by push_cast; rfl, mk_u32 _, ?_⟩⟩
  repeat' ((conv => whnf); first | refine Ja ?_)
  refine ⟨⟨Nat × Nat × (Nat → Nat), fun (i, c, H) => ⟨[(0, dsA x (ln x)), (1, dsA y (ln y)), (5, .v (.c (.row 0))), (6, int .u32 c), (21, dsA x (ln x)), (22, int .i64 (ln x)), (23, int .i64 i)], [(0, .rw 1 60 false Nat uL H (ln x + 1))], 1⟩, fun (i, c, H) => i ≤ ln x ∧ PlusI x y i c H, fun (i, _, _) => ln x - i, ⟨(0, 0, fun _ => 0), [], ⟨Nat.zero_le _, ⟨by omega, fun j hj => absurd hj (Nat.not_lt_zero _), rfl⟩⟩, Ent.g⟩, ?_⟩⟩
  rintro ⟨i, c, H⟩ ⟨i1, hI⟩
  have hc := hI.c1
  by_cases hi : i < ln x
  · have hn := hI.step
    by_cases hj : i < ln y
    · have s := Add32_sp (dg x i) (dg y i) c (dg32 x i) (dg32 y i) hc
      clear hI
      repeat' ((conv => whnf); first | refine Ja ?_ | refine Je ?_ | refine Jg rfl ?_ | refine Jy s ?_)
      refine ⟨⟨_, rfl, ?_⟩⟩
      repeat' ((conv => whnf); first | refine Jb ?_)
      exact ⟨(i + 1, _, _), [], ⟨hi, hn⟩, by show ln x - (i + 1) < ln x - i; omega, Ent.g⟩
    · have s := Add32_sp (dg x i) (dg y i) c (dg32 x i) (dg32 y i) hc
      have e0 : dg y i = 0 := dg_out (by omega)
      rw [e0] at s hn
      clear hI
      repeat' ((conv => whnf); first | refine Ja ?_ | refine Je ?_ | refine Jf ?_ | refine Jg rfl ?_ | refine Jy s ?_)
      refine ⟨⟨_, rfl, ?_⟩⟩
      repeat' ((conv => whnf); first | refine Jb ?_)
      exact ⟨(i + 1, _, _), [], ⟨hi, hn⟩, by show ln x - (i + 1) < ln x - i; omega, Ent.g⟩
  · obtain rfl : i = ln x := by omega
    have hf := hI.fin (Nat.le_refl _) (by omega)
    repeat' ((conv => whnf); first | refine Ja ?_ | refine Jf ?_ | refine Jg rfl ?_)
    refine ⟨⟨_, rfl, ?_⟩⟩
    repeat' ((conv => whnf); first | refine Ja ?_)
    refine ⟨⟨_, _, rfl, rfl, ?_⟩⟩
    exact .leaf (dsL_le hf)
theorem plus_sp (x y : Nat) (hx : ln x ≤ 1000000) (hy : ln y ≤ 1000000) : Sp CX 130 [dsA x (ln x), dsA y (ln y)] (dsA (x + y) (max (ln x) (ln y) + 1)) := by
  by_cases h : ln y ≤ ln x
  · rw [Nat.max_eq_left h]
    exact plus_core x y h hx
  · rw [Nat.max_eq_right (by omega), Nat.add_comm x y]
    exact plus_swap y x (by omega) hy
structure LessI (x y i r : Nat) (H : Nat → Nat) : Prop where
  r1 : r ≤ 1
  lt : ∀ j, j < i → H j < W32
  v : valF H i + valF (dg y) i = valF (dg x) i + r * W32 ^ i
theorem LessI.step {x y i r : Nat} {H : Nat → Nat} (h : LessI x y i r H) : LessI x y (i + 1) (if dg x i < dg y i + r then 1 else 0) (setZ Nat H i ((dg x i + 8589934592 - dg y i - r) % 4294967296)) := by
  have h1 := dg32 x i
  have h2 := dg32 y i
  have h3 := h.r1
  refine ⟨by split <;> omega, set_lt h.lt (by omega), ?_⟩
  refine sub_step (a := dg x) (b := dg y) (r := r) (d := (dg x i + 8589934592 - dg y i - r) % 4294967296) ?_ (by rw [w32_eq]; split <;> omega) (set_at _ _ _)
  rw [valF_set]
  exact h.v
theorem LessI.fin {x y r : Nat} {H : Nat → Nat} (h : LessI x y (ln x) r H) (hle : y ≤ x) : ∀ j, j < ln x → H j = dg (x - y) j := fun _ hj =>
  dg_of (sub_end h.v h.lt (Nat.le_refl _) hle) h.lt hj
set_option maxHeartbeats 8000000 in
set_option maxRecDepth 20000 in
theorem less_sp (x y : Nat) (hle : y ≤ x) (hx : ln x ≤ 1000000) : Sp CX 132 [dsA x (ln x), dsA y (ln y)] (dsA (x - y) (ln x)) := by
  refine fn_sp (C := CX) [] [0] tysX_ok mixed Tryz.func132 rfl (by kernel_rfl) Tryz.ntmps132 rfl rfl ?_
  repeat' ((conv => whnf); first | (refine Ob.mk ⟨rfl, by omega, by decide⟩ ?_) | refine Ja ?_)
  refine ⟨⟨Nat, uL, fun _ => 0, ln x, rfl, mk_u32 _, ?_⟩⟩
  repeat' ((conv => whnf); first | refine Ja ?_)
  refine ⟨⟨Nat × Nat × (Nat → Nat), fun (i, c, H) => ⟨[(0, dsA x (ln x)), (1, dsA y (ln y)), (5, .v (.c (.row 0))), (6, int .u32 c), (13, dsA x (ln x)), (14, int .i64 (ln x)), (15, int .i64 i)], [(0, .rw 1 60 false Nat uL H (ln x))], 1⟩, fun (i, c, H) => i ≤ ln x ∧ LessI x y i c H, fun (i, _, _) => ln x - i, ⟨(0, 0, fun _ => 0), [], ⟨Nat.zero_le _, ⟨by omega, fun j hj => absurd hj (Nat.not_lt_zero _), rfl⟩⟩, Ent.g⟩, ?_⟩⟩
  rintro ⟨i, c, H⟩ ⟨i1, hI⟩
  have hc := hI.r1
  by_cases hi : i < ln x
  · have hn := hI.step
    by_cases hj : i < ln y
    · have s := Sub32_sp (dg x i) (dg y i) c (dg32 x i) (dg32 y i) hc
      clear hI
      generalize (if dg x i < dg y i + c then 1 else 0 : Nat) = c' at *
      repeat' ((conv => whnf); first | refine Ja ?_ | refine Je ?_ | refine Jg rfl ?_ | refine Jy s ?_)
      refine ⟨⟨_, rfl, ?_⟩⟩
      repeat' ((conv => whnf); first | refine Jb ?_)
      exact ⟨(i + 1, _, _), [], ⟨hi, hn⟩, by show ln x - (i + 1) < ln x - i; omega, Ent.g⟩
    · have s := Sub32_sp (dg x i) (dg y i) c (dg32 x i) (dg32 y i) hc
      have e0 : dg y i = 0 := dg_out (by omega)
      rw [e0] at s hn
      clear hI
      generalize (if dg x i < 0 + c then 1 else 0 : Nat) = c' at *
      repeat' ((conv => whnf); first | refine Ja ?_ | refine Je ?_ | refine Jf ?_ | refine Jg rfl ?_ | refine Jy s ?_)
      refine ⟨⟨_, rfl, ?_⟩⟩
      repeat' ((conv => whnf); first | refine Jb ?_)
      exact ⟨(i + 1, _, _), [], ⟨hi, hn⟩, by show ln x - (i + 1) < ln x - i; omega, Ent.g⟩
  · obtain rfl : i = ln x := by omega
    have hf := hI.fin hle
    repeat' ((conv => whnf); first | refine Jf ?_)
    refine ⟨⟨_, _, rfl, rfl, ?_⟩⟩
    exact .leaf (dsL_le hf)
theorem ln_add (x y : Nat) : ln (x + y) ≤ max (ln x) (ln y) + 1 := by
  apply ln_le
  have h1 := Nat.lt_of_lt_of_le (lt_ln x) (w32_mono (Nat.le_max_left (ln x) (ln y)))
  have h2 := Nat.lt_of_lt_of_le (lt_ln y) (w32_mono (Nat.le_max_right (ln x) (ln y)))
  have h3 : 2 * W32 ^ max (ln x) (ln y) ≤ W32 * W32 ^ max (ln x) (ln y) := Nat.mul_le_mul_right _ (by decide)
  rw [Nat.pow_succ, Nat.mul_comm (W32 ^ _)]
  omega
theorem ln_mono {x y : Nat} (h : x ≤ y) : ln x ≤ ln y := ln_le (Nat.lt_of_le_of_lt h (lt_ln y))
def sgZ (s : Bool) (x : Nat) : Int := if s then -(x : Int) else x
set_option maxHeartbeats 8000000 in
theorem add_core (sa s : Bool) (x y : Nat) (hx : ln x ≤ 900000) (hy : ln y ≤ 900000) : Sp CX 94 [.v (.agg [.x (.bool sa), dsL x (ln x)]), bool s, dsA y (ln y)] (zA (sgZ sa x + sgZ s y)) := by
  have s1 := trimmed_sp x (ln x) (Nat.le_refl _) (by omega)
  have s2 := plus_sp x y (by omega) (by omega)
  have s3 := compare_sp x y (by omega) (by omega)
  have s4 := fun b => signed_sp b (x + y) (max (ln x) (ln y) + 1) (ln_add x y) (by omega)
  have e1 : ∀ b, zS b (x + y) = zV (sgZ b x + sgZ b y) := fun b => by
    rw [zS_eq]
    congr 1
    unfold sgZ
    cases b
    · simp
    · simp; omega
  have d1 : ∀ b, zS b (x - y) = zV (sgZ b (x - y)) := fun b => zS_eq _ _
  have d2 : ∀ b, zS b (y - x) = zV (sgZ b (y - x)) := fun b => zS_eq _ _
  have neg : ∀ sa s : Bool, sa ≠ s → Sp CX 94 [.v (.agg [.x (.bool sa), dsL x (ln x)]), bool s, dsA y (ln y)] (zA (sgZ sa x + sgZ s y)) := fun sa s hs => by
    clear s2 s4 e1
    by_cases h : y ≤ x
    · have s5 := less_sp x y h (by omega)
      have s6 := fun b => signed_sp b (x - y) (ln x) (ln_mono (Nat.sub_le x y)) (by omega)
      have hc : 0 ≤ cmpZ x y := by unfold cmpZ; rw [if_neg (by omega)]; split <;> omega
      have e : zV (sgZ sa (x - y)) = zV (sgZ sa x + sgZ s y) := by
        congr 1
        unfold sgZ
        cases sa <;> cases s <;> simp at hs ⊢ <;> omega
      cases sa with
      | true =>
        obtain rfl : s = false := by simpa using hs.symm
        refine fn_sp (C := CX) [] [] tysX_ok mixed Tryz.func94 rfl (by kernel_rfl) Tryz.ntmps94 rfl rfl ?_
        repeat' ((conv => whnf); first | refine Je ?_ | refine Jf ?_ | refine Ji ?_ | refine Jj ?_ | refine Jk rfl ?_ | refine Jy s1 ?_ | refine Jy s3 ?_ | refine Jy s5 ?_ | refine Jy (s6 true) ?_)
        refine ⟨⟨_, _, rfl, rfl, ?_⟩⟩
        exact .eq (congrArg AV.v ((d1 true).trans e))
      | false =>
        obtain rfl : s = true := by simpa using hs.symm
        refine fn_sp (C := CX) [] [] tysX_ok mixed Tryz.func94 rfl (by kernel_rfl) Tryz.ntmps94 rfl rfl ?_
        repeat' ((conv => whnf); first | refine Je ?_ | refine Jf ?_ | refine Ji ?_ | refine Jj ?_ | refine Jk rfl ?_ | refine Jy s1 ?_ | refine Jy s3 ?_ | refine Jy s5 ?_ | refine Jy (s6 false) ?_)
        refine ⟨⟨_, _, rfl, rfl, ?_⟩⟩
        exact .eq (congrArg AV.v ((d1 false).trans e))
    · have s5 := less_sp y x (by omega) (by omega)
      have s6 := fun b => signed_sp b (y - x) (ln y) (ln_mono (Nat.sub_le y x)) (by omega)
      have hc : cmpZ x y < 0 := by unfold cmpZ; rw [if_pos (by omega)]; omega
      have e : zV (sgZ s (y - x)) = zV (sgZ sa x + sgZ s y) := by
        congr 1
        unfold sgZ
        cases sa <;> cases s <;> simp at hs ⊢ <;> omega
      cases s with
      | true =>
        obtain rfl : sa = false := by simpa using hs
        refine fn_sp (C := CX) [] [] tysX_ok mixed Tryz.func94 rfl (by kernel_rfl) Tryz.ntmps94 rfl rfl ?_
        repeat' ((conv => whnf); first | refine Jf ?_ | refine Jy s1 ?_ | refine Jy s3 ?_ | refine Jy s5 ?_ | refine Jy (s6 true) ?_)
        refine ⟨⟨_, _, rfl, rfl, ?_⟩⟩
        exact .eq (congrArg AV.v ((d2 true).trans e))
      | false =>
        obtain rfl : sa = true := by simpa using hs
        refine fn_sp (C := CX) [] [] tysX_ok mixed Tryz.func94 rfl (by kernel_rfl) Tryz.ntmps94 rfl rfl ?_
        repeat' ((conv => whnf); first | refine Jf ?_ | refine Jy s1 ?_ | refine Jy s3 ?_ | refine Jy s5 ?_ | refine Jy (s6 false) ?_)
        refine ⟨⟨_, _, rfl, rfl, ?_⟩⟩
        exact .eq (congrArg AV.v ((d2 false).trans e))
  by_cases hs : sa = s
  · subst hs
    clear neg s3 d1 d2
    cases sa with
    | true =>
      refine fn_sp (C := CX) [] [] tysX_ok mixed Tryz.func94 rfl (by kernel_rfl) Tryz.ntmps94 rfl rfl ?_
      repeat' ((conv => whnf); first | refine Je ?_ | refine Jy s1 ?_ | refine Jy s2 ?_ | refine Jy (s4 true) ?_)
      refine ⟨⟨_, _, rfl, rfl, ?_⟩⟩
      exact .eq (congrArg AV.v (e1 true))
    | false =>
      refine fn_sp (C := CX) [] [] tysX_ok mixed Tryz.func94 rfl (by kernel_rfl) Tryz.ntmps94 rfl rfl ?_
      repeat' ((conv => whnf); first | refine Je ?_ | refine Jy s1 ?_ | refine Jy s2 ?_ | refine Jy (s4 false) ?_)
      refine ⟨⟨_, _, rfl, rfl, ?_⟩⟩
      exact .eq (congrArg AV.v (e1 false))
  · exact neg sa s hs
theorem sgZ_int (z : Int) : sgZ (decide (z < 0)) z.natAbs = z := by
  unfold sgZ
  by_cases h : z < 0
  · rw [decide_eq_true h, if_pos rfl]; omega
  · rw [decide_eq_false h, if_neg Bool.false_ne_true]; omega
set_option maxHeartbeats 4000000 in
theorem Add_sp (a b : Int) (hx : ln a.natAbs ≤ 900000) (hy : ln b.natAbs ≤ 900000) : Sp CX 49 [zA a, zA b] (zA (a + b)) := by
  have s1 := trimmed_sp b.natAbs (ln b.natAbs) (Nat.le_refl _) (by omega)
  have s2 := add_core (decide (a < 0)) (decide (b < 0)) a.natAbs b.natAbs hx hy
  rw [sgZ_int, sgZ_int] at s2
  refine fn_sp (C := CX) [] [] tysX_ok mixed Tryz.func49 rfl (by kernel_rfl) Tryz.ntmps49 rfl rfl ?_
  repeat' ((conv => whnf); first | refine Ji ?_ | refine Jj ?_ | refine Jk rfl ?_ | refine Jy s1 ?_ | refine Jy s2 ?_)
  refine ⟨⟨_, _, rfl, rfl, ?_⟩⟩
  exact AvLe.refl _
end Go.Proofs.YtdjfndfkjbjcpaaGreatDoor

/- Bigints in letters: times, Mul. -/
namespace Go.Proofs.YtdjfndfkjbjcpaaGreatDoor
open Go Go.RowKit Go.VG HP
def tmL (x y : Nat) : Nat := if ln x = 0 ∨ ln y = 0 then 0 else if ln x = 1 ∧ ln y = 1 then ln (x * y) else ln x + ln y
theorem ln_mul (x y : Nat) : ln (x * y) ≤ ln x + ln y := by
  apply ln_le
  rw [Nat.pow_add]
  exact Nat.mul_lt_mul'' (lt_ln x) (lt_ln y)
theorem zero_of_ln {x : Nat} (h : ln x = 0) : x = 0 := (len_ln x).zero_iff.1 h
theorem tmL_le (x y : Nat) : ln (x * y) ≤ tmL x y ∧ tmL x y ≤ ln x + ln y := by
  unfold tmL
  have h := ln_mul x y
  by_cases h1 : ln x = 0 ∨ ln y = 0
  · rw [if_pos h1]
    have : x * y = 0 := by
      rcases h1 with h1 | h1
      · rw [zero_of_ln h1, Nat.zero_mul]
      · rw [zero_of_ln h1, Nat.mul_zero]
    rw [this, ln_zero]
    omega
  · rw [if_neg h1]
    split <;> omega
theorem bmul_bd {x y : Nat} (hx : x < 4294967296) (hy : y < 4294967296) : (x : Int) * y ≤ 18446744065119617025 := by
  have : (x : Int) * y ≤ 4294967295 * 4294967295 := Int.mul_le_mul (by omega) (by omega) (by omega) (by omega)
  omega
set_option maxHeartbeats 16000000 in
set_option maxRecDepth 20000 in
theorem times_core (x y : Nat) (h0 : ¬ (ln x = 0 ∨ ln y = 0)) (h1 : ¬ (ln x = 1 ∧ ln y = 1)) (hx : ln x ≤ 400000) (hy : ln y ≤ 400000) : Sp CX 116 [dsA x (ln x), dsA y (ln y)] (dsA (x * y) (ln x + ln y)) := by
  refine fn_sp (C := CX) [] [0] tysX_ok mixed Tryz.func116 rfl (by kernel_rfl) Tryz.ntmps116 rfl rfl ?_
  by_cases hx1 : ln x = 1
  · have hy1 : ln y ≠ 1 := fun h => h1 ⟨hx1, h⟩
    repeat' ((conv => whnf); first | (refine Ob.mk ⟨rfl, by omega, by decide⟩ ?_) | refine Jb ?_ | refine Je ?_ | refine Jf ?_)
    refine ⟨⟨Nat, uL, fun _ => 0, ln x + ln y, by push_cast; rfl, mk_u32 _, ?_⟩⟩
    repeat' ((conv => whnf); first | refine Ja ?_)
    refine ⟨⟨Nat × (Nat → Nat), fun (i, H) => ⟨[(0, dsA x (ln x)), (1, dsA y (ln y)), (5, .v (.c (.row 0))), (44, dsA x (ln x)), (45, int .i64 (ln x)), (46, int .i64 i)], [(0, .rw 1 60 false Nat uL H (ln x + ln y))], 1⟩, fun (i, H) => i ≤ ln x ∧ MulO H (dg x) (dg y) i (ln y), fun (i, _) => ln x - i, ⟨(0, fun _ => 0), [], ⟨Nat.zero_le _, mulO_start _ _ _⟩, Ent.g⟩, ?_⟩⟩
    rintro ⟨i, H⟩ ⟨i1, hO⟩
    by_cases hi : i < ln x
    · repeat' ((conv => whnf); first | refine Je ?_ | refine Jg rfl ?_)
      refine ⟨⟨Nat × Nat × (Nat → Nat), fun (j, c, G) => ⟨[(0, dsA x (ln x)), (1, dsA y (ln y)), (5, .v (.c (.row 0))), (6, int .i64 i), (7, int .u32 (dg x i)), (8, int .u64 c), (44, dsA x (ln x)), (45, int .i64 (ln x)), (46, int .i64 i), (51, dsA y (ln y)), (52, int .i64 (ln y)), (53, int .i64 j)], [(0, .rw 1 60 false Nat uL G (ln x + ln y))], 1⟩, fun (j, c, G) => j ≤ ln y ∧ MulI G H (dg y) (dg x i) c i j, fun (j, _, _) => ln y - j, ⟨(0, 0, H), [], ⟨Nat.zero_le _, mulI_start hO.1⟩, Ent.g⟩, ?_⟩⟩
      rintro ⟨j, c, G⟩ ⟨j1, hI⟩
      have hc : c < 4294967296 := hI.2.2.1
      by_cases hj : j < ln y
      · obtain ⟨tt, htt⟩ : ∃ tt, tt = dg x i * dg y j + G (i + j) + c := ⟨_, rfl⟩
        have hn := mulI_step hI (dg32 x i) (dg32 y j) htt
        have hG : G (i + j) < 4294967296 := hI.2.1 (i + j)
        have hb := mul_digit (dg32 x i) (dg32 y j) hG hc
        have b0 : (0 : Int) ≤ (dg x i : Int) * dg y j := Int.mul_nonneg (by omega) (by omega)
        have b1 : (dg x i : Int) * dg y j ≤ 18446744065119617025 := bmul_bd (dg32 x i) (dg32 y j)
        have b2 : (dg x i : Int) * dg y j + G (i + j) + c = (tt : Int) := by rw [htt]; push_cast; rfl
        have b3 : (tt : Int) < 18446744073709551616 := by have := hb.2.1; rw [← htt] at this; omega
        have c1 := dg32 x i
        have c2 := dg32 y j
        clear hI hO hb htt
        repeat' ((conv => whnf); first | (refine Idx.mk ⟨j, rfl, by omega, ?_⟩) | (refine Idx.mk ⟨i + j, by omega, by omega, ?_⟩) | (refine Cases.y ?_ (decide_eq_true (by omega))) | (refine Cases.n ?_ (decide_eq_false (by omega))) | refine Ja ?_ | refine Jb ?_ | refine Jc ?_)
        refine ⟨⟨tt % 4294967296, congrArg (fun q => [Leaf.x (.int .u32 q)]) (by omega), ?_⟩⟩
        repeat' ((conv => whnf); first | refine Jb ?_)
        exact ⟨(j + 1, tt / 4294967296, _), [], ⟨hj, hn⟩, by show ln y - (j + 1) < ln y - j; omega, Ent.g⟩
      · obtain rfl : j = ln y := by omega
        have hn := mulO_step hO hI
        clear hI hO
        repeat' ((conv => whnf); first | (refine Idx.mk ⟨i + ln y, by omega, by omega, ?_⟩) | refine Ja ?_ | refine Jb ?_ | refine Jf ?_)
        refine ⟨⟨c, rfl, ?_⟩⟩
        repeat' ((conv => whnf); first | refine Jb ?_)
        exact ⟨(i + 1, _), [], ⟨hi, hn⟩, by show ln x - (i + 1) < ln x - i; omega, Ent.g⟩
    · obtain rfl : i = ln x := by omega
      have hv := hO.2
      rw [val_ln, val_ln] at hv
      have hf : ∀ q, q < ln x + ln y → H q = dg (x * y) q := fun q hq => dg_of hv (fun i _ => hO.1 i) hq
      clear hO
      repeat' ((conv => whnf); first | refine Jf ?_)
      refine ⟨⟨_, _, rfl, rfl, ?_⟩⟩
      exact .leaf (dsL_le hf)
  · have h2 : ln x ≠ 1 := hx1
    repeat' ((conv => whnf); first | (refine Ob.mk ⟨rfl, by omega, by decide⟩ ?_) | refine Jb ?_ | refine Jf ?_)
    refine ⟨⟨Nat, uL, fun _ => 0, ln x + ln y, by push_cast; rfl, mk_u32 _, ?_⟩⟩
    repeat' ((conv => whnf); first | refine Ja ?_)
    refine ⟨⟨Nat × (Nat → Nat), fun (i, H) => ⟨[(0, dsA x (ln x)), (1, dsA y (ln y)), (5, .v (.c (.row 0))), (44, dsA x (ln x)), (45, int .i64 (ln x)), (46, int .i64 i)], [(0, .rw 1 60 false Nat uL H (ln x + ln y))], 1⟩, fun (i, H) => i ≤ ln x ∧ MulO H (dg x) (dg y) i (ln y), fun (i, _) => ln x - i, ⟨(0, fun _ => 0), [], ⟨Nat.zero_le _, mulO_start _ _ _⟩, Ent.g⟩, ?_⟩⟩
    rintro ⟨i, H⟩ ⟨i1, hO⟩
    by_cases hi : i < ln x
    · repeat' ((conv => whnf); first | refine Je ?_ | refine Jg rfl ?_)
      refine ⟨⟨Nat × Nat × (Nat → Nat), fun (j, c, G) => ⟨[(0, dsA x (ln x)), (1, dsA y (ln y)), (5, .v (.c (.row 0))), (6, int .i64 i), (7, int .u32 (dg x i)), (8, int .u64 c), (44, dsA x (ln x)), (45, int .i64 (ln x)), (46, int .i64 i), (51, dsA y (ln y)), (52, int .i64 (ln y)), (53, int .i64 j)], [(0, .rw 1 60 false Nat uL G (ln x + ln y))], 1⟩, fun (j, c, G) => j ≤ ln y ∧ MulI G H (dg y) (dg x i) c i j, fun (j, _, _) => ln y - j, ⟨(0, 0, H), [], ⟨Nat.zero_le _, mulI_start hO.1⟩, Ent.g⟩, ?_⟩⟩
      rintro ⟨j, c, G⟩ ⟨j1, hI⟩
      have hc : c < 4294967296 := hI.2.2.1
      by_cases hj : j < ln y
      · obtain ⟨tt, htt⟩ : ∃ tt, tt = dg x i * dg y j + G (i + j) + c := ⟨_, rfl⟩
        have hn := mulI_step hI (dg32 x i) (dg32 y j) htt
        have hG : G (i + j) < 4294967296 := hI.2.1 (i + j)
        have hb := mul_digit (dg32 x i) (dg32 y j) hG hc
        have b0 : (0 : Int) ≤ (dg x i : Int) * dg y j := Int.mul_nonneg (by omega) (by omega)
        have b1 : (dg x i : Int) * dg y j ≤ 18446744065119617025 := bmul_bd (dg32 x i) (dg32 y j)
        have b2 : (dg x i : Int) * dg y j + G (i + j) + c = (tt : Int) := by rw [htt]; push_cast; rfl
        have b3 : (tt : Int) < 18446744073709551616 := by have := hb.2.1; rw [← htt] at this; omega
        have c1 := dg32 x i
        have c2 := dg32 y j
        clear hI hO hb htt
        repeat' ((conv => whnf); first | (refine Idx.mk ⟨j, rfl, by omega, ?_⟩) | (refine Idx.mk ⟨i + j, by omega, by omega, ?_⟩) | (refine Cases.y ?_ (decide_eq_true (by omega))) | (refine Cases.n ?_ (decide_eq_false (by omega))) | refine Ja ?_ | refine Jb ?_ | refine Jc ?_)
        refine ⟨⟨tt % 4294967296, congrArg (fun q => [Leaf.x (.int .u32 q)]) (by omega), ?_⟩⟩
        repeat' ((conv => whnf); first | refine Jb ?_)
        exact ⟨(j + 1, tt / 4294967296, _), [], ⟨hj, hn⟩, by show ln y - (j + 1) < ln y - j; omega, Ent.g⟩
      · obtain rfl : j = ln y := by omega
        have hn := mulO_step hO hI
        clear hI hO
        repeat' ((conv => whnf); first | (refine Idx.mk ⟨i + ln y, by omega, by omega, ?_⟩) | refine Ja ?_ | refine Jb ?_ | refine Jf ?_)
        refine ⟨⟨c, rfl, ?_⟩⟩
        repeat' ((conv => whnf); first | refine Jb ?_)
        exact ⟨(i + 1, _), [], ⟨hi, hn⟩, by show ln x - (i + 1) < ln x - i; omega, Ent.g⟩
    · obtain rfl : i = ln x := by omega
      have hv := hO.2
      rw [val_ln, val_ln] at hv
      have hf : ∀ q, q < ln x + ln y → H q = dg (x * y) q := fun q hq => dg_of hv (fun i _ => hO.1 i) hq
      clear hO
      repeat' ((conv => whnf); first | refine Jf ?_)
      refine ⟨⟨_, _, rfl, rfl, ?_⟩⟩
      exact .leaf (dsL_le hf)
theorem one_dg {x : Nat} (h : ln x = 1) : dg x 0 = x ∧ x < 4294967296 := by
  have := lt_ln x
  rw [h, Nat.pow_one, w32_eq] at this
  exact ⟨by rw [dg0, Nat.mod_eq_of_lt this], this⟩
set_option maxHeartbeats 8000000 in
set_option maxRecDepth 20000 in
theorem btimes_sp (x y : Nat) (hx : ln x ≤ 400000) (hy : ln y ≤ 400000) : Sp CX 116 [dsA x (ln x), dsA y (ln y)] (dsA (x * y) (tmL x y)) := by
  unfold tmL
  by_cases h0 : ln x = 0 ∨ ln y = 0
  · rw [if_pos h0]
    by_cases hx0 : ln x = 0
    · refine fn_sp (C := CX) [] [] tysX_ok mixed Tryz.func116 rfl (by kernel_rfl) Tryz.ntmps116 rfl rfl ?_
      repeat' ((conv => whnf); first | refine Je ?_)
      refine ⟨⟨_, _, rfl, rfl, ?_⟩⟩
      exact .leaf .nil
    · have hy0 : ln y = 0 := by omega
      refine fn_sp (C := CX) [] [] tysX_ok mixed Tryz.func116 rfl (by kernel_rfl) Tryz.ntmps116 rfl rfl ?_
      repeat' ((conv => whnf); first | refine Je ?_ | refine Jf ?_)
      refine ⟨⟨_, _, rfl, rfl, ?_⟩⟩
      exact .leaf .nil
  · rw [if_neg h0]
    by_cases h1 : ln x = 1 ∧ ln y = 1
    · rw [if_pos h1]
      obtain ⟨x1, x2⟩ := one_dg h1.1
      obtain ⟨y1, y2⟩ := one_dg h1.2
      have b1 := bmul_bd x2 y2
      have b0 : (0 : Int) ≤ (x : Int) * y := Int.mul_nonneg (by omega) (by omega)
      have eb : ((x * y : Nat) : Int) = (x : Int) * y := by push_cast; rfl
      have s1 := wide_sp (x * y) (by omega)
      have hx1 := h1.1
      have hy1 := h1.2
      have d1 : (dg x 0 : Int) = x := by rw [x1]
      have d2 : (dg y 0 : Int) = y := by rw [y1]
      refine fn_sp (C := CX) [] [] tysX_ok mixed Tryz.func116 rfl (by kernel_rfl) Tryz.ntmps116 rfl rfl ?_
      repeat' ((conv => whnf); first | (refine Idx.mk ⟨0, rfl, by omega, ?_⟩) | refine Jb ?_ | refine Jd ?_ | refine Je ?_ | refine Jf ?_ | refine Ji ?_ | refine Jj ?_ | refine Jk rfl ?_ | refine Sp.call (s1) (.cons (.int (by rw [d1, d2, eb]; omega)) .nil) rfl (AvLe.refl _) ?_)
      refine ⟨⟨_, _, rfl, rfl, ?_⟩⟩
      exact AvLe.refl _
    · rw [if_neg h1]
      exact times_core x y h0 h1 hx hy
theorem mul_sgn (x y : Int) : (if (!(decide (x < 0) == decide (y < 0))) = true then -((x.natAbs * y.natAbs : Nat) : Int) else ((x.natAbs * y.natAbs : Nat) : Int)) = x * y := by
  rcases Int.natAbs_eq x with hx | hx <;> rcases Int.natAbs_eq y with hy | hy <;> (
    generalize x.natAbs = a at *
    generalize y.natAbs = b at *
    subst hx hy)
  · rw [decide_eq_false (by omega), decide_eq_false (by omega)]; simp
  · by_cases hb : b = 0
    · subst hb; simp
    · rw [decide_eq_false (by omega), decide_eq_true (by omega)]; simp [Int.mul_neg]
  · by_cases ha : a = 0
    · subst ha; simp
    · rw [decide_eq_true (by omega), decide_eq_false (by omega)]; simp [Int.neg_mul]
  · by_cases ha : a = 0
    · subst ha; simp
    · by_cases hb : b = 0
      · subst hb; simp
      · rw [decide_eq_true (by omega), decide_eq_true (by omega)]; simp [Int.neg_mul, Int.mul_neg]
set_option maxHeartbeats 8000000 in
theorem BMul_sp (a b : Int) (hx : ln a.natAbs ≤ 400000) (hy : ln b.natAbs ≤ 400000) : Sp CX 70 [zA a, zA b] (zA (a * b)) := by
  have s1 := trimmed_sp a.natAbs (ln a.natAbs) (Nat.le_refl _) (by omega)
  have s2 := trimmed_sp b.natAbs (ln b.natAbs) (Nat.le_refl _) (by omega)
  have s3 := btimes_sp a.natAbs b.natAbs hx hy
  obtain ⟨l1, l2⟩ := tmL_le a.natAbs b.natAbs
  have s4 := signed_sp (!(decide (a < 0) == decide (b < 0))) (a.natAbs * b.natAbs) (tmL a.natAbs b.natAbs) l1 (by omega)
  rw [zS_eq, mul_sgn] at s4
  refine fn_sp (C := CX) [] [] tysX_ok mixed Tryz.func70 rfl (by kernel_rfl) Tryz.ntmps70 rfl rfl ?_
  repeat' ((conv => whnf); first | refine Ji ?_ | refine Jj ?_ | refine Jk rfl ?_ | refine Jy s1 ?_ | refine Jy s2 ?_ | refine Jy s3 ?_ | refine Jy s4 ?_)
  refine ⟨⟨_, _, rfl, rfl, ?_⟩⟩
  exact AvLe.refl _
end Go.Proofs.YtdjfndfkjbjcpaaGreatDoor

/- Bigints of the reference in letters: trim, Norm, signed, below, SameInt. -/
namespace Go.Proofs.YtdjfndfkjbjcpaaGreatDoor
open Go Go.RowKit Go.VG HP
theorem dsL_le2 {x n m : Nat} {Z : Nat → Nat} (hn : n = m) (h : ∀ i, i < m → Z i = dg x i) : LeafLe (.sl 1 Nat uL Z n) (dsL x m) := by subst hn; exact dsL_le h
theorem app0 {x m : Nat} (i : Nat) (_ : i < m) : appZ Nat (fun _ => 0) (shiftZ Nat (dg x) 0) 0 i = dg x i := by
  unfold appZ shiftZ
  rw [if_neg (by omega), Nat.zero_add, Nat.sub_zero]
set_option maxHeartbeats 4000000 in
set_option maxRecDepth 20000 in
theorem rtrim_sp (x n : Nat) (h : ln x ≤ n) (hn : n ≤ 1000000) : Sp CX 115 [dsA x n] (dsA x (ln x)) := by
  refine fn_sp (C := CX) [] [1] tysX_ok mixed Tryz.func115 rfl (by kernel_rfl) Tryz.ntmps115 rfl rfl ?_
  repeat' ((conv => whnf); first | refine Ja ?_)
  refine ⟨⟨Nat, fun k => ⟨[(0, dsA x n), (3, int .i64 k)], [], 0⟩, fun k => ln x ≤ k ∧ k ≤ n, fun k => k, ⟨n, [], ⟨h, Nat.le_refl _⟩, Ent.g⟩, ?_⟩⟩
  rintro k ⟨k1, k2⟩
  by_cases h0 : k = 0
  · subst h0
    obtain e : ln x = 0 := by omega
    rw [e]
    repeat' ((conv => whnf); first | refine Jf ?_)
    refine ⟨⟨Nat, uL, fun _ => 0, 0, rfl, mk_u32 _, ?_⟩⟩
    repeat' ((conv => whnf); first | refine Ja ?_ | (refine SlOb.mk ⟨0, 0, .inl ⟨rfl, rfl⟩, .inr ⟨.i64, rfl⟩, by omega, by omega, ?_⟩))
    refine ⟨⟨shiftZ Nat (dg x) 0, fun _ _ _ _ => .refl _, fun _ _ _ _ => rfl, ?_⟩⟩
    repeat' ((conv => whnf); first | refine Ja ?_)
    refine ⟨⟨_, _, rfl, rfl, ?_⟩⟩
    exact .leaf (dsL_le2 rfl app0)
  · obtain ⟨q, rfl⟩ : ∃ q, k = q + 1 := ⟨k - 1, by omega⟩
    by_cases hd : dg x q = 0
    · have hle : ln x ≤ q := by
        apply Nat.le_of_not_lt
        intro hlt
        have hx : x ≠ 0 := fun e => by rw [e, ln_zero] at hlt; omega
        have := ln_top hx
        rw [show ln x - 1 = q by omega] at this
        exact this hd
      repeat' ((conv => whnf); first | (refine Idx.mk ⟨q, by omega, by omega, ?_⟩) | refine Jb ?_ | refine Je ?_)
      exact ⟨q, [], ⟨hle, by omega⟩, by show q < q + 1; omega, Ent.g⟩
    · have hge : ln x = q + 1 := by
        apply Nat.le_antisymm k1
        apply Nat.lt_of_not_le
        intro hle
        exact hd (dg_out hle)
      repeat' ((conv => whnf); first | (refine Idx.mk ⟨q, by omega, by omega, ?_⟩) | refine Jb ?_ | refine Je ?_ | refine Jf ?_)
      refine ⟨⟨Nat, uL, fun _ => 0, 0, rfl, mk_u32 _, ?_⟩⟩
      repeat' ((conv => whnf); first | refine Ja ?_ | (refine SlOb.mk ⟨0, q + 1, .inl ⟨rfl, rfl⟩, .inr ⟨.i64, rfl⟩, by omega, by omega, ?_⟩))
      refine ⟨⟨shiftZ Nat (dg x) 0, fun _ _ _ _ => .refl _, fun _ _ _ _ => rfl, ?_⟩⟩
      repeat' ((conv => whnf); first | refine Ja ?_)
      refine ⟨⟨_, _, rfl, rfl, ?_⟩⟩
      exact .leaf (dsL_le2 (by omega) app0)
set_option maxHeartbeats 4000000 in
theorem rNorm_sp (s : Bool) (x n : Nat) (h : ln x ≤ n) (hn : n ≤ 1000000) : Sp CX 109 [.v (.agg [.x (.bool s), dsL x n])] (.v (zS s x)) := by
  have s1 := rtrim_sp x n h hn
  cases s with
  | true =>
    refine fn_sp (C := CX) [] [] tysX_ok mixed Tryz.func109 rfl (by kernel_rfl) Tryz.ntmps109 rfl rfl ?_
    repeat' ((conv => whnf); first | refine Je ?_ | refine Jy s1 ?_)
    refine ⟨⟨_, _, rfl, rfl, ?_⟩⟩
    exact zS_le (by rw [Bool.true_and, decide_eq_decide]; omega)
  | false =>
    refine fn_sp (C := CX) [] [] tysX_ok mixed Tryz.func109 rfl (by kernel_rfl) Tryz.ntmps109 rfl rfl ?_
    repeat' ((conv => whnf); first | refine Jf ?_ | refine Jy s1 ?_)
    refine ⟨⟨_, _, rfl, rfl, ?_⟩⟩
    exact zS_le rfl
theorem rsigned_sp (s : Bool) (x n : Nat) (h : ln x ≤ n) (hn : n ≤ 1000000) : Sp CX 111 [bool s, dsA x n] (.v (zS s x)) := by
  have s1 := rNorm_sp s x n h hn
  refine fn_sp (C := CX) [] [] tysX_ok mixed Tryz.func111 rfl (by kernel_rfl) Tryz.ntmps111 rfl rfl ?_
  repeat' ((conv => whnf); first | refine Ja ?_ | refine Jy s1 ?_)
  refine ⟨⟨_, _, rfl, rfl, ?_⟩⟩
  exact AvLe.refl _
theorem rNorm_z (z : Int) (h : ln z.natAbs ≤ 1000000) : Sp CX 109 [zA z] (zA z) := by
  have s := rNorm_sp (decide (z < 0)) z.natAbs (ln z.natAbs) (Nat.le_refl _) h
  have e := sgZ_int z
  unfold sgZ at e
  rw [zS_eq, e] at s
  exact s
set_option maxHeartbeats 4000000 in
theorem below_sp (x y : Nat) (hx : ln x ≤ 1000000) : Sp CX 113 [dsA x (ln x), dsA y (ln y)] (bool (decide (x < y))) := by
  by_cases hl : ln x = ln y
  · refine fn_sp (C := CX) [] [] tysX_ok mixed Tryz.func113 rfl (by kernel_rfl) Tryz.ntmps113 rfl rfl ?_
    rw [hl]
    repeat' ((conv => whnf); first | refine Jb ?_ | refine Jf ?_)
    refine ⟨⟨Nat, fun k => ⟨[(0, dsA x (ln y)), (1, dsA y (ln y)), (5, int .i64 ((k : Int) - 1))], [], 0⟩, fun k => k ≤ ln y ∧ DAgr x y k, fun k => k, ⟨ln y, [], ⟨Nat.le_refl _, agr_start hl rfl⟩, Ent.g⟩, ?_⟩⟩
    rintro k ⟨k1, k2⟩
    by_cases h0 : k = 0
    · subst h0
      have e := agr_zero k2
      rw [decide_eq_false (show ¬ x < y by omega)]
      repeat' ((conv => whnf); first | refine Jf ?_)
      refine ⟨⟨_, _, rfl, rfl, ?_⟩⟩
      exact AvLe.refl _
    · obtain ⟨q, rfl⟩ : ∃ q, k = q + 1 := ⟨k - 1, by omega⟩
      by_cases hd : dg x q = dg y q
      · repeat' ((conv => whnf); first | (refine Idx.mk ⟨q, by omega, by omega, ?_⟩) | refine Jb ?_ | refine Je ?_ | refine Jf ?_ | refine Ji ?_ | refine Jj ?_ | refine Jk rfl ?_)
        exact ⟨q, [], ⟨by omega, agr_down k2 hd⟩, by show q < q + 1; omega, Ent.g⟩
      · by_cases hlt : dg x q < dg y q
        · have hxy := agr_lt k2 hlt
          rw [decide_eq_true hxy]
          repeat' ((conv => whnf); first | (refine Idx.mk ⟨q, by omega, by omega, ?_⟩) | refine Je ?_ | refine Ji ?_ | refine Jj ?_ | refine Jk rfl ?_)
          refine ⟨⟨_, _, rfl, rfl, ?_⟩⟩
          exact AvLe.bool (decide_eq_true (by omega))
        · have hxy := agr_lt k2.symm (show dg y q < dg x q by omega)
          rw [decide_eq_false (show ¬ x < y by omega)]
          repeat' ((conv => whnf); first | (refine Idx.mk ⟨q, by omega, by omega, ?_⟩) | refine Je ?_ | refine Ji ?_ | refine Jj ?_ | refine Jk rfl ?_)
          refine ⟨⟨_, _, rfl, rfl, ?_⟩⟩
          exact AvLe.bool (decide_eq_false (by omega))
  · have e : decide ((ln x : Int) < ln y) = decide (x < y) := by
      rw [decide_eq_decide]
      constructor
      · intro h; exact lt_of_ln (by omega)
      · intro h
        have := ln_mono (Nat.le_of_lt h)
        omega
    refine fn_sp (C := CX) [] [] tysX_ok mixed Tryz.func113 rfl (by kernel_rfl) Tryz.ntmps113 rfl rfl ?_
    repeat' ((conv => whnf); first | refine Je ?_)
    refine ⟨⟨_, _, rfl, rfl, ?_⟩⟩
    exact AvLe.bool e
set_option maxHeartbeats 4000000 in
theorem SameInt_sp (a : Int) (h : ln a.natAbs ≤ 1000000) : Sp CX 11 [zA a, zA a] (bool true) := by
  have key : ∀ (s : Bool), Sp CX 11 [.v (.agg [.x (.bool s), dsL a.natAbs (ln a.natAbs)]), .v (.agg [.x (.bool s), dsL a.natAbs (ln a.natAbs)])] (bool true) := fun s => by
    generalize a.natAbs = x at *
    have tail : True := trivial
    cases s with
    | true =>
      refine fn_sp (C := CX) [] [] tysX_ok mixed Tryz.func11 rfl (by kernel_rfl) Tryz.ntmps11 rfl rfl ?_
      repeat' ((conv => whnf); first | refine Jf ?_)
      refine ⟨⟨Nat, fun k => ⟨[(2, .v (.c (.loc 0 0))), (3, .v (.c (.loc 1 0))), (5, int .i64 k)], [(1, .st [.x (.bool true), dsL x (ln x)]), (0, .st [.x (.bool true), dsL x (ln x)])], 2⟩, fun k => k ≤ ln x, fun k => ln x - k, ⟨0, [], Nat.zero_le _, Ent.g⟩, ?_⟩⟩
      intro k hk
      by_cases hlt : k < ln x
      · repeat' ((conv => whnf); first | refine Jb ?_ | refine Je ?_ | refine Jf ?_ | refine Jg rfl ?_ | refine Ji ?_ | refine Jj ?_ | refine Jk rfl ?_)
        exact ⟨k + 1, [], hlt, by show ln x - (k + 1) < ln x - k; omega, Ent.g⟩
      · obtain rfl : k = ln x := by omega
        repeat' ((conv => whnf); first | refine Jf ?_)
        refine ⟨⟨_, _, rfl, rfl, ?_⟩⟩
        exact AvLe.refl _
    | false =>
      refine fn_sp (C := CX) [] [] tysX_ok mixed Tryz.func11 rfl (by kernel_rfl) Tryz.ntmps11 rfl rfl ?_
      repeat' ((conv => whnf); first | refine Jf ?_)
      refine ⟨⟨Nat, fun k => ⟨[(2, .v (.c (.loc 0 0))), (3, .v (.c (.loc 1 0))), (5, int .i64 k)], [(1, .st [.x (.bool false), dsL x (ln x)]), (0, .st [.x (.bool false), dsL x (ln x)])], 2⟩, fun k => k ≤ ln x, fun k => ln x - k, ⟨0, [], Nat.zero_le _, Ent.g⟩, ?_⟩⟩
      intro k hk
      by_cases hlt : k < ln x
      · repeat' ((conv => whnf); first | refine Jb ?_ | refine Je ?_ | refine Jf ?_ | refine Jg rfl ?_ | refine Ji ?_ | refine Jj ?_ | refine Jk rfl ?_)
        exact ⟨k + 1, [], hlt, by show ln x - (k + 1) < ln x - k; omega, Ent.g⟩
      · obtain rfl : k = ln x := by omega
        repeat' ((conv => whnf); first | refine Jf ?_)
        refine ⟨⟨_, _, rfl, rfl, ?_⟩⟩
        exact AvLe.refl _
  exact key _
end Go.Proofs.YtdjfndfkjbjcpaaGreatDoor

/- Bigints of the reference in letters: plus, minus, Add, Mul. -/
namespace Go.Proofs.YtdjfndfkjbjcpaaGreatDoor
open Go Go.RowKit Go.VG HP
theorem app_set {H : Nat → Nat} {i d : Nat} : ∀ j, j < i + 1 → appZ Nat H (fun _ => d) i j = setZ Nat H i d j := fun j hj => by
  unfold appZ setZ
  by_cases h : j < i
  · rw [if_pos h, if_neg (by omega)]
  · rw [if_neg h, if_pos (by omega)]
theorem PlusI.congr {x y i c : Nat} {H G : Nat → Nat} (h : PlusI x y i c H) (e : ∀ j, j < i → G j = H j) : PlusI x y i c G :=
  ⟨h.c1, fun j hj => by rw [e j hj]; exact h.lt j hj, by rw [valF_congr i e]; exact h.v⟩
theorem LessI.congr {x y i c : Nat} {H G : Nat → Nat} (h : LessI x y i c H) (e : ∀ j, j < i → G j = H j) : LessI x y i c G :=
  ⟨h.r1, fun j hj => by rw [e j hj]; exact h.lt j hj, by rw [valF_congr i e]; exact h.v⟩
theorem one_le {a : Int} {d : Nat} (h : a = d) : ∀ i j : Nat, i < 1 → j < 1 → LeafLe (getL [.x (.int .u32 a)] (i * 1 + j)) (uL ((fun _ => d) i) j) := fun i j hi hj => by
  obtain rfl : i = 0 := by omega
  obtain rfl : j = 0 := by omega
  exact .int h
set_option maxHeartbeats 16000000 in
set_option maxRecDepth 20000 in
theorem rplus_sp (x y : Nat) (hx : ln x ≤ 900000) (hy : ln y ≤ 900000) : Sp CX 112 [dsA x (ln x), dsA y (ln y)] (dsA (x + y) (max (ln x) (ln y) + 1)) := by
  refine fn_sp (C := CX) [] [1] tysX_ok mixed Tryz.func112 rfl (by kernel_rfl) Tryz.ntmps112 rfl rfl ?_
  repeat' ((conv => whnf); first | refine Ja ?_)
  refine ⟨⟨Nat × Nat × (Nat → Nat), fun (i, c, H) => ⟨[(0, dsA x (ln x)), (1, dsA y (ln y)), (5, .v (.c (.row 0))), (6, int .u64 c), (7, int .i64 i)], [(0, .rw 1 60 false Nat uL H i)], 1⟩, fun (i, c, H) => i ≤ max (ln x) (ln y) ∧ PlusI x y i c H, fun (i, _, _) => max (ln x) (ln y) - i, ⟨(0, 0, fun _ => 0), [.n 5 0 1 60], ⟨Nat.zero_le _, ⟨by omega, fun j hj => absurd hj (Nat.not_lt_zero _), rfl⟩⟩, Ent.g⟩, ?_⟩⟩
  rintro ⟨i, c, H⟩ ⟨i1, hI⟩
  have hc := hI.c1
  have d1 := dg32 x i
  have d2 := dg32 y i
  by_cases hi : i < max (ln x) (ln y)
  · have hn := hI.step.congr (app_set (H := H))
    by_cases ha : i < ln x
    · by_cases hb : i < ln y
      · clear hI
        repeat' ((conv => whnf); first | (refine Cases.y ?_ (decide_eq_true (by omega))) | (refine Cases.n ?_ (decide_eq_false (by omega))) | refine Ja ?_ | refine Jb ?_ | refine Jc ?_ | refine Je ?_ | refine Jg rfl ?_)
        refine ⟨⟨fun _ => (dg x i + dg y i + c) % 4294967296, one_le (by omega), fun _ _ _ _ => rfl, ?_⟩⟩
        repeat' ((conv => whnf); first | refine Jb ?_)
        exact ⟨(i + 1, _, _), [.s 0 1], ⟨by omega, hn⟩, by show max (ln x) (ln y) - (i + 1) < max (ln x) (ln y) - i; omega, Ent.g⟩
      · have e0 : dg y i = 0 := dg_out (by omega)
        rw [e0] at hn
        clear hI
        repeat' ((conv => whnf); first | (refine Cases.y ?_ (decide_eq_true (by omega))) | (refine Cases.n ?_ (decide_eq_false (by omega))) | refine Ja ?_ | refine Jb ?_ | refine Jc ?_ | refine Je ?_ | refine Jg rfl ?_)
        refine ⟨⟨fun _ => (dg x i + 0 + c) % 4294967296, one_le (by omega), fun _ _ _ _ => rfl, ?_⟩⟩
        repeat' ((conv => whnf); first | refine Jb ?_)
        exact ⟨(i + 1, _, _), [.s 0 1], ⟨by omega, hn⟩, by show max (ln x) (ln y) - (i + 1) < max (ln x) (ln y) - i; omega, Ent.g⟩
    · have e0 : dg x i = 0 := dg_out (by omega)
      have hb : i < ln y := by omega
      rw [e0] at hn
      clear hI
      repeat' ((conv => whnf); first | (refine Cases.y ?_ (decide_eq_true (by omega))) | (refine Cases.n ?_ (decide_eq_false (by omega))) | refine Ja ?_ | refine Jb ?_ | refine Jc ?_ | refine Jf ?_ | refine Jg rfl ?_)
      refine ⟨⟨fun _ => (0 + dg y i + c) % 4294967296, one_le (by omega), fun _ _ _ _ => rfl, ?_⟩⟩
      repeat' ((conv => whnf); first | refine Jb ?_)
      exact ⟨(i + 1, _, _), [.s 0 1], ⟨by omega, hn⟩, by show max (ln x) (ln y) - (i + 1) < max (ln x) (ln y) - i; omega, Ent.g⟩
  · obtain rfl : i = max (ln x) (ln y) := by omega
    have hf := hI.fin (by omega) (by omega)
    clear hI
    repeat' ((conv => whnf); first | (refine Cases.y ?_ (decide_eq_true (by omega))) | (refine Cases.n ?_ (decide_eq_false (by omega))) | refine Ja ?_ | refine Jb ?_ | refine Jf ?_)
    refine ⟨⟨fun _ => c, one_le (by omega), fun _ _ _ _ => rfl, ?_⟩⟩
    repeat' ((conv => whnf); first | refine Ja ?_)
    refine ⟨⟨_, _, rfl, rfl, ?_⟩⟩
    exact .leaf (dsL_le fun j hj => (app_set j hj).trans (hf j hj))
set_option maxHeartbeats 16000000 in
set_option maxRecDepth 20000 in
theorem rminus_sp (x y : Nat) (hle : y ≤ x) (hx : ln x ≤ 900000) : Sp CX 114 [dsA x (ln x), dsA y (ln y)] (dsA (x - y) (ln x)) := by
  refine fn_sp (C := CX) [] [0] tysX_ok mixed Tryz.func114 rfl (by kernel_rfl) Tryz.ntmps114 rfl rfl ?_
  repeat' ((conv => whnf); first | refine Ja ?_)
  refine ⟨⟨Nat × Nat × (Nat → Nat), fun (i, c, H) => ⟨[(0, dsA x (ln x)), (1, dsA y (ln y)), (5, .v (.c (.row 0))), (6, int .u64 c), (7, int .i64 i)], [(0, .rw 1 60 false Nat uL H i)], 1⟩, fun (i, c, H) => i ≤ ln x ∧ LessI x y i c H, fun (i, _, _) => ln x - i, ⟨(0, 0, fun _ => 0), [.n 5 0 1 60], ⟨Nat.zero_le _, ⟨by omega, fun j hj => absurd hj (Nat.not_lt_zero _), rfl⟩⟩, Ent.g⟩, ?_⟩⟩
  rintro ⟨i, c, H⟩ ⟨i1, hI⟩
  have hc := hI.r1
  have d1 := dg32 x i
  have d2 := dg32 y i
  by_cases hi : i < ln x
  · have hn := hI.step.congr (app_set (H := H))
    by_cases hb : i < ln y
    · by_cases hl : dg x i < dg y i + c
      · rw [if_pos hl] at hn
        clear hI
        repeat' ((conv => whnf); first | (refine Cases.y ?_ (decide_eq_true (by omega))) | (refine Cases.n ?_ (decide_eq_false (by omega))) | refine Ja ?_ | refine Jb ?_ | refine Jg rfl ?_)
        refine ⟨⟨fun _ => (dg x i + 8589934592 - dg y i - c) % 4294967296, one_le (by omega), fun _ _ _ _ => rfl, ?_⟩⟩
        repeat' ((conv => whnf); first | refine Jb ?_)
        exact ⟨(i + 1, _, _), [.s 0 1], ⟨hi, hn⟩, by show ln x - (i + 1) < ln x - i; omega, Ent.g⟩
      · rw [if_neg hl] at hn
        clear hI
        repeat' ((conv => whnf); first | (refine Cases.y ?_ (decide_eq_true (by omega))) | (refine Cases.n ?_ (decide_eq_false (by omega))) | refine Ja ?_ | refine Jb ?_ | refine Jg rfl ?_)
        refine ⟨⟨fun _ => (dg x i + 8589934592 - dg y i - c) % 4294967296, one_le (by omega), fun _ _ _ _ => rfl, ?_⟩⟩
        repeat' ((conv => whnf); first | refine Jb ?_)
        exact ⟨(i + 1, _, _), [.s 0 1], ⟨hi, hn⟩, by show ln x - (i + 1) < ln x - i; omega, Ent.g⟩
    · by_cases hl : dg x i < 0 + c
      · have e0 : dg y i = 0 := dg_out (by omega)
        rw [e0] at hn
        rw [if_pos hl] at hn
        clear hI
        repeat' ((conv => whnf); first | (refine Cases.y ?_ (decide_eq_true (by omega))) | (refine Cases.n ?_ (decide_eq_false (by omega))) | refine Ja ?_ | refine Jb ?_ | refine Jg rfl ?_)
        refine ⟨⟨fun _ => (dg x i + 8589934592 - 0 - c) % 4294967296, one_le (by omega), fun _ _ _ _ => rfl, ?_⟩⟩
        repeat' ((conv => whnf); first | refine Jb ?_)
        exact ⟨(i + 1, _, _), [.s 0 1], ⟨hi, hn⟩, by show ln x - (i + 1) < ln x - i; omega, Ent.g⟩
      · have e0 : dg y i = 0 := dg_out (by omega)
        rw [e0] at hn
        rw [if_neg hl] at hn
        clear hI
        repeat' ((conv => whnf); first | (refine Cases.y ?_ (decide_eq_true (by omega))) | (refine Cases.n ?_ (decide_eq_false (by omega))) | refine Ja ?_ | refine Jb ?_ | refine Jg rfl ?_)
        refine ⟨⟨fun _ => (dg x i + 8589934592 - 0 - c) % 4294967296, one_le (by omega), fun _ _ _ _ => rfl, ?_⟩⟩
        repeat' ((conv => whnf); first | refine Jb ?_)
        exact ⟨(i + 1, _, _), [.s 0 1], ⟨hi, hn⟩, by show ln x - (i + 1) < ln x - i; omega, Ent.g⟩
  · obtain rfl : i = ln x := by omega
    have hf := hI.fin hle
    repeat' ((conv => whnf); first | refine Jf ?_)
    refine ⟨⟨_, _, rfl, rfl, ?_⟩⟩
    exact .leaf (dsL_le hf)
def zB (s : Bool) (x : Nat) : AV := .v (.agg [.x (.bool s), dsL x (ln x)])
set_option maxHeartbeats 16000000 in
theorem rAdd_core (sa sb : Bool) (x y : Nat) (hx : ln x ≤ 400000) (hy : ln y ≤ 400000) (s1 : Sp CX 109 [zB sa x] (zB sa x)) (s2 : Sp CX 109 [zB sb y] (zB sb y)) :
    Sp CX 65 [zB sa x, zB sb y] (zA (sgZ sa x + sgZ sb y)) := by
  by_cases hs : sa = sb
  · subst hs
    have s3 := rplus_sp x y (by omega) (by omega)
    have s4 := rsigned_sp sa (x + y) (max (ln x) (ln y) + 1) (ln_add x y) (by omega)
    have e1 : zS sa (x + y) = zV (sgZ sa x + sgZ sa y) := by
      rw [zS_eq]
      congr 1
      unfold sgZ
      cases sa
      · simp
      · simp; omega
    unfold zB at s1 s2 ⊢
    cases sa with
    | true =>
      refine fn_sp (C := CX) [] [] tysX_ok mixed Tryz.func65 rfl (by kernel_rfl) Tryz.ntmps65 rfl rfl ?_
      repeat' ((conv => whnf); first | refine Je ?_ | refine Ji ?_ | refine Jj ?_ | refine Jk rfl ?_ | refine Jl ?_ | refine Jo ?_ | refine Jq rfl ?_ | refine Jr ?_ | refine Js ?_ | refine Jt rfl ?_ | refine Jy s1 ?_ | refine Jy s2 ?_ | refine Jy s3 ?_ | refine Jy s4 ?_)
      refine ⟨⟨_, _, rfl, rfl, ?_⟩⟩
      exact .eq (congrArg AV.v e1)
    | false =>
      refine fn_sp (C := CX) [] [] tysX_ok mixed Tryz.func65 rfl (by kernel_rfl) Tryz.ntmps65 rfl rfl ?_
      repeat' ((conv => whnf); first | refine Je ?_ | refine Ji ?_ | refine Jj ?_ | refine Jk rfl ?_ | refine Jl ?_ | refine Jo ?_ | refine Jq rfl ?_ | refine Jr ?_ | refine Js ?_ | refine Jt rfl ?_ | refine Jy s1 ?_ | refine Jy s2 ?_ | refine Jy s3 ?_ | refine Jy s4 ?_)
      refine ⟨⟨_, _, rfl, rfl, ?_⟩⟩
      exact .eq (congrArg AV.v e1)
  · have s3 := below_sp x y (by omega)
    by_cases h : x < y
    · rw [decide_eq_true h] at s3
      have s5 := rminus_sp y x (by omega) (by omega)
      have s6 := rsigned_sp sb (y - x) (ln y) (ln_mono (Nat.sub_le y x)) (by omega)
      have e : zS sb (y - x) = zV (sgZ sa x + sgZ sb y) := by
        rw [zS_eq]
        congr 1
        unfold sgZ
        cases sa <;> cases sb <;> simp at hs ⊢ <;> omega
      unfold zB at s1 s2 ⊢
      cases sb with
      | true =>
        obtain rfl : sa = false := by simpa using hs
        refine fn_sp (C := CX) [] [] tysX_ok mixed Tryz.func65 rfl (by kernel_rfl) Tryz.ntmps65 rfl rfl ?_
        repeat' ((conv => whnf); first | refine Je ?_ | refine Jf ?_ | refine Ji ?_ | refine Jj ?_ | refine Jk rfl ?_ | refine Jl ?_ | refine Jo ?_ | refine Jq rfl ?_ | refine Jr ?_ | refine Js ?_ | refine Jt rfl ?_ | refine Jy s1 ?_ | refine Jy s2 ?_ | refine Jy s3 ?_ | refine Jy s5 ?_ | refine Jy s6 ?_)
        refine ⟨⟨_, _, rfl, rfl, ?_⟩⟩
        exact .eq (congrArg AV.v e)
      | false =>
        obtain rfl : sa = true := by simpa using hs
        refine fn_sp (C := CX) [] [] tysX_ok mixed Tryz.func65 rfl (by kernel_rfl) Tryz.ntmps65 rfl rfl ?_
        repeat' ((conv => whnf); first | refine Je ?_ | refine Jf ?_ | refine Ji ?_ | refine Jj ?_ | refine Jk rfl ?_ | refine Jl ?_ | refine Jo ?_ | refine Jq rfl ?_ | refine Jr ?_ | refine Js ?_ | refine Jt rfl ?_ | refine Jy s1 ?_ | refine Jy s2 ?_ | refine Jy s3 ?_ | refine Jy s5 ?_ | refine Jy s6 ?_)
        refine ⟨⟨_, _, rfl, rfl, ?_⟩⟩
        exact .eq (congrArg AV.v e)
    · rw [decide_eq_false h] at s3
      have s5 := rminus_sp x y (by omega) (by omega)
      have s6 := rsigned_sp sa (x - y) (ln x) (ln_mono (Nat.sub_le x y)) (by omega)
      have e : zS sa (x - y) = zV (sgZ sa x + sgZ sb y) := by
        rw [zS_eq]
        congr 1
        unfold sgZ
        cases sa <;> cases sb <;> simp at hs ⊢ <;> omega
      unfold zB at s1 s2 ⊢
      cases sb with
      | true =>
        obtain rfl : sa = false := by simpa using hs
        refine fn_sp (C := CX) [] [] tysX_ok mixed Tryz.func65 rfl (by kernel_rfl) Tryz.ntmps65 rfl rfl ?_
        repeat' ((conv => whnf); first | refine Jf ?_ | refine Ji ?_ | refine Jj ?_ | refine Jk rfl ?_ | refine Jl ?_ | refine Jo ?_ | refine Jq rfl ?_ | refine Jr ?_ | refine Js ?_ | refine Jt rfl ?_ | refine Jy s1 ?_ | refine Jy s2 ?_ | refine Jy s3 ?_ | refine Jy s5 ?_ | refine Jy s6 ?_)
        refine ⟨⟨_, _, rfl, rfl, ?_⟩⟩
        exact .eq (congrArg AV.v e)
      | false =>
        obtain rfl : sa = true := by simpa using hs
        refine fn_sp (C := CX) [] [] tysX_ok mixed Tryz.func65 rfl (by kernel_rfl) Tryz.ntmps65 rfl rfl ?_
        repeat' ((conv => whnf); first | refine Jf ?_ | refine Ji ?_ | refine Jj ?_ | refine Jk rfl ?_ | refine Jl ?_ | refine Jo ?_ | refine Jq rfl ?_ | refine Jr ?_ | refine Js ?_ | refine Jt rfl ?_ | refine Jy s1 ?_ | refine Jy s2 ?_ | refine Jy s3 ?_ | refine Jy s5 ?_ | refine Jy s6 ?_)
        refine ⟨⟨_, _, rfl, rfl, ?_⟩⟩
        exact .eq (congrArg AV.v e)
theorem rAdd_sp (a b : Int) (hx : ln a.natAbs ≤ 400000) (hy : ln b.natAbs ≤ 400000) : Sp CX 65 [zA a, zA b] (zA (a + b)) := by
  have s := rAdd_core (decide (a < 0)) (decide (b < 0)) a.natAbs b.natAbs hx hy (rNorm_z a (by omega)) (rNorm_z b (by omega))
  rw [sgZ_int, sgZ_int] at s
  exact s
end Go.Proofs.YtdjfndfkjbjcpaaGreatDoor

/- Bigints of the reference in letters: Mul. -/
namespace Go.Proofs.YtdjfndfkjbjcpaaGreatDoor
open Go Go.RowKit Go.VG HP
set_option maxHeartbeats 16000000 in
set_option maxRecDepth 20000 in
theorem rMul_core (sa sb : Bool) (x y : Nat) (hx : ln x ≤ 400000) (hy : ln y ≤ 400000) : Sp CX 66 [zB sa x, zB sb y] (.v (zS (!(sa == sb)) (x * y))) := by
  have t1 := rtrim_sp x (ln x) (Nat.le_refl _) (by omega)
  have t2 := rtrim_sp y (ln y) (Nat.le_refl _) (by omega)
  have s4 := rsigned_sp (!(sa == sb)) (x * y) (ln x + ln y) (ln_mul x y) (by omega)
  unfold zB
  refine fn_sp (C := CX) [(1000014,9)] [] tysX_ok mixed Tryz.func66 rfl (by kernel_rfl) Tryz.ntmps66 rfl rfl ?_
  repeat' ((conv => whnf); first | (refine Ob.mk ⟨rfl, by omega, by decide⟩ ?_) | refine Jb ?_ | refine Ji ?_ | refine Jj ?_ | refine Jk rfl ?_ | refine Jy t1 ?_ | refine Jy t2 ?_)
  refine ⟨⟨Nat, uL, fun _ => 0, ln x + ln y, by push_cast; rfl, mk_u32 _, ?_⟩⟩
  repeat' ((conv => whnf); first | refine Ja ?_)
  refine ⟨⟨Nat × (Nat → Nat), fun (i, H) => ⟨[(2, .v (.c (.loc 0 0))), (3, .v (.c (.loc 1 0))), (4, .v (.c (.loc 2 0))), (5, dsA x (ln x)), (6, dsA y (ln y)), (7, .v (.c (.row 9))), (8, int .i64 i)], [(9, .rw 1 60 false Nat uL H (ln x + ln y)), (2, .st [.x (.bool false), .x (.slice none 0 0)]), (1, .st [.x (.bool sb), dsL y (ln y)]), (0, .st [.x (.bool sa), dsL x (ln x)])], 10⟩, fun (i, H) => i ≤ ln x ∧ MulO H (dg x) (dg y) i (ln y), fun (i, _) => ln x - i, ⟨(0, fun _ => 0), [], ⟨Nat.zero_le _, mulO_start _ _ _⟩, Ent.g⟩, ?_⟩⟩
  rintro ⟨i, H⟩ ⟨i1, hO⟩
  by_cases hi : i < ln x
  · repeat' ((conv => whnf); first | refine Je ?_)
    refine ⟨⟨Nat × Nat × (Nat → Nat), fun (j, c, G) => ⟨[(2, .v (.c (.loc 0 0))), (3, .v (.c (.loc 1 0))), (4, .v (.c (.loc 2 0))), (5, dsA x (ln x)), (6, dsA y (ln y)), (7, .v (.c (.row 9))), (8, int .i64 i), (9, int .u64 c), (10, int .i64 j)], [(9, .rw 1 60 false Nat uL G (ln x + ln y)), (2, .st [.x (.bool false), .x (.slice none 0 0)]), (1, .st [.x (.bool sb), dsL y (ln y)]), (0, .st [.x (.bool sa), dsL x (ln x)])], 10⟩, fun (j, c, G) => j ≤ ln y ∧ MulI G H (dg y) (dg x i) c i j, fun (j, _, _) => ln y - j, ⟨(0, 0, H), [], ⟨Nat.zero_le _, mulI_start hO.1⟩, Ent.g⟩, ?_⟩⟩
    rintro ⟨j, c, G⟩ ⟨j1, hI⟩
    have hc : c < 4294967296 := hI.2.2.1
    by_cases hj : j < ln y
    · obtain ⟨tt, htt⟩ : ∃ tt, tt = dg x i * dg y j + G (i + j) + c := ⟨_, rfl⟩
      have hn := mulI_step hI (dg32 x i) (dg32 y j) htt
      have hG : G (i + j) < 4294967296 := hI.2.1 (i + j)
      have hb := mul_digit (dg32 x i) (dg32 y j) hG hc
      have b0 : (0 : Int) ≤ (dg x i : Int) * dg y j := Int.mul_nonneg (by omega) (by omega)
      have b1 : (dg x i : Int) * dg y j ≤ 18446744065119617025 := bmul_bd (dg32 x i) (dg32 y j)
      have b2 : (dg x i : Int) * dg y j + G (i + j) + c = (tt : Int) := by rw [htt]; push_cast; rfl
      have b3 : (tt : Int) < 18446744073709551616 := by have := hb.2.1; rw [← htt] at this; omega
      have c1 := dg32 x i
      have c2 := dg32 y j
      clear hI hO hb htt
      repeat' ((conv => whnf); first | (refine Idx.mk ⟨i, rfl, by omega, ?_⟩) | (refine Idx.mk ⟨j, rfl, by omega, ?_⟩) | (refine Idx.mk ⟨i + j, by omega, by omega, ?_⟩) | (refine Cases.y ?_ (decide_eq_true (by omega))) | (refine Cases.n ?_ (decide_eq_false (by omega))) | refine Ja ?_ | refine Jb ?_ | refine Jc ?_ | refine Ji ?_ | refine Jj ?_ | refine Jk rfl ?_)
      refine ⟨⟨tt % 4294967296, congrArg (fun q => [Leaf.x (.int .u32 q)]) (by omega), ?_⟩⟩
      repeat' ((conv => whnf); first | refine Jb ?_)
      exact ⟨(j + 1, tt / 4294967296, _), [], ⟨hj, hn⟩, by show ln y - (j + 1) < ln y - j; omega, Ent.g⟩
    · obtain rfl : j = ln y := by omega
      have hn := mulO_step hO hI
      clear hI hO
      repeat' ((conv => whnf); first | (refine Idx.mk ⟨i + ln y, by omega, by omega, ?_⟩) | refine Ja ?_ | refine Jb ?_ | refine Jf ?_)
      refine ⟨⟨c, rfl, ?_⟩⟩
      repeat' ((conv => whnf); first | refine Jb ?_)
      exact ⟨(i + 1, _), [], ⟨hi, hn⟩, by show ln x - (i + 1) < ln x - i; omega, Ent.g⟩
  · obtain rfl : i = ln x := by omega
    have hv := hO.2
    rw [val_ln, val_ln] at hv
    have hf : ∀ q, q < ln x + ln y → H q = dg (x * y) q := fun q hq => dg_of hv (fun i _ => hO.1 i) hq
    clear hO
    repeat' ((conv => whnf); first | refine Jf ?_ | refine Sp.call (s4) (.cons (.refl _) (.cons (.leaf (dsL_le hf)) .nil)) rfl (AvLe.refl _) ?_)
    refine ⟨⟨_, _, rfl, rfl, ?_⟩⟩
    exact AvLe.refl _
theorem rMul_sp (a b : Int) (hx : ln a.natAbs ≤ 400000) (hy : ln b.natAbs ≤ 400000) : Sp CX 66 [zA a, zA b] (zA (a * b)) := by
  have s := rMul_core (decide (a < 0)) (decide (b < 0)) a.natAbs b.natAbs hx hy
  rw [zS_eq, mul_sgn] at s
  exact s
end Go.Proofs.YtdjfndfkjbjcpaaGreatDoor

/- Small constructors of the statements in letters: Z, Zs, SameInts. -/
namespace Go.Proofs.YtdjfndfkjbjcpaaGreatDoor
open Go Go.RowKit Go.VG HP
theorem div_next (N i : Nat) : N / W32 ^ i / 4294967296 = N / W32 ^ (i + 1) := by
  rw [Nat.pow_succ, ← Nat.div_div_eq_div_mul, w32_eq]
theorem div_pos_ln {N i : Nat} (h : i < ln N) : 0 < N / W32 ^ i := by
  apply Nat.pos_of_ne_zero
  intro h0
  have hlt : N < W32 ^ i := (Nat.div_eq_zero_iff.1 h0).resolve_left (by have := w32_pos i; omega)
  have := ln_le hlt
  omega
theorem div_end (N : Nat) : N / W32 ^ ln N = 0 := Nat.div_eq_of_lt (lt_ln N)
set_option maxHeartbeats 8000000 in
set_option maxRecDepth 20000 in
theorem Z_core (n : Int) (h1 : -9223372036854775808 ≤ n) (h2 : n ≤ 9223372036854775807) (N : Nat) (hN : N = n.natAbs) : Sp CX 12 [int .i64 n] (.v (.agg [.x (.bool (decide (n < 0))), dsL N (ln N)])) := by
  have hl : ln N ≤ 2 := ln_two (by omega)
  refine fn_sp (C := CX) [] [2] tysX_ok mixed Tryz.func12 rfl (by kernel_rfl) Tryz.ntmps12 rfl rfl ?_
  by_cases hn : n < 0
  · repeat' ((conv => whnf); first | refine Jd ?_ | refine Je ?_)
    refine ⟨⟨Nat × (Nat → Nat), fun (i, H) => ⟨[(2, .v (.c (.loc 0 0))), (3, int .u64 (N / W32 ^ i : Nat)), (4, .v (.c (.loc 1 0)))], [(2, .rw 1 60 false Nat uL H i), (1, .st [.x (.bool (decide (n < 0))), .row 2]), (0, .st [.x (.bool false), .x (.slice none 0 0)])], 3⟩, fun (i, H) => i ≤ ln N ∧ ∀ j, j < i → H j = dg N j, fun (i, _) => ln N - i, ⟨(0, fun _ => 0), [.m 1 1 2 1 60], ⟨Nat.zero_le _, fun j hj => absurd hj (Nat.not_lt_zero _)⟩, by
      refine ⟨?_, ?_, rfl⟩
      · repeat (first | exact TmE.nil | refine TmE.cons (by first | exact AvLe.refl _ | exact AvLe.int (by rw [Nat.pow_zero, Nat.div_one]; omega)) ?_)
      · repeat (first | exact OwnE.nil | refine OwnE.cons rfl (BlkLe.refl _) ?_ | refine OwnE.cons rfl BlkLe.zero ?_)⟩, ?_⟩⟩
    rintro ⟨i, H⟩ ⟨i1, hH⟩
    have ub : N / W32 ^ i ≤ 18446744073709551615 := Nat.le_trans (Nat.div_le_self _ _) (by omega)
    by_cases hi : i < ln N
    · have hp := div_pos_ln hi
      have hd : (((N / W32 ^ i : Nat) : Int)) % 4294967296 = (dg N i : Int) := by unfold dg; rw [w32_eq]; omega
      have hn2 := div_next N i
      have hu : ((N / W32 ^ i : Nat) : Int) / 4294967296 = ((N / W32 ^ (i + 1) : Nat) : Int) := by rw [← hn2]; omega
      have hH' : ∀ j, j < i + 1 → appZ Nat H (fun _ => dg N i) i j = dg N j := fun j hj => by
        unfold appZ
        by_cases h : j < i
        · rw [if_pos h]; exact hH j h
        · rw [if_neg h, show j = i by omega]
      repeat' ((conv => whnf); first | refine Ja ?_ | refine Jc ?_ | refine Je ?_)
      refine ⟨⟨fun _ => dg N i, one_le hd, fun _ _ _ _ => rfl, ?_⟩⟩
      repeat' ((conv => whnf); first | refine Ja ?_)
      exact ⟨(i + 1, _), [.s 2 3], ⟨hi, hH'⟩, by show ln N - (i + 1) < ln N - i; omega, by
        refine ⟨?_, ?_, rfl⟩
        · repeat (first | exact TmE.nil | refine TmE.cons (by first | exact AvLe.refl _ | exact AvLe.int hu) ?_)
        · repeat (first | exact OwnE.nil | refine OwnE.cons rfl (BlkLe.refl _) ?_)⟩
    · obtain rfl : i = ln N := by omega
      have e0 := div_end N
      repeat' ((conv => whnf); first | refine Jf ?_)
      refine ⟨⟨_, _, rfl, rfl, ?_⟩⟩
      exact .agg (.cons (.refl _) (.cons (dsL_le hH) .nil))
  · repeat' ((conv => whnf); first | refine Jb ?_ | refine Jf ?_)
    refine ⟨⟨Nat × (Nat → Nat), fun (i, H) => ⟨[(2, .v (.c (.loc 0 0))), (3, int .u64 (N / W32 ^ i : Nat)), (4, .v (.c (.loc 1 0)))], [(2, .rw 1 60 false Nat uL H i), (1, .st [.x (.bool (decide (n < 0))), .row 2]), (0, .st [.x (.bool false), .x (.slice none 0 0)])], 3⟩, fun (i, H) => i ≤ ln N ∧ ∀ j, j < i → H j = dg N j, fun (i, _) => ln N - i, ⟨(0, fun _ => 0), [.m 1 1 2 1 60], ⟨Nat.zero_le _, fun j hj => absurd hj (Nat.not_lt_zero _)⟩, by
      refine ⟨?_, ?_, rfl⟩
      · repeat (first | exact TmE.nil | refine TmE.cons (by first | exact AvLe.refl _ | exact AvLe.int (by rw [Nat.pow_zero, Nat.div_one]; omega)) ?_)
      · repeat (first | exact OwnE.nil | refine OwnE.cons rfl (BlkLe.refl _) ?_ | refine OwnE.cons rfl BlkLe.zero ?_)⟩, ?_⟩⟩
    rintro ⟨i, H⟩ ⟨i1, hH⟩
    have ub : N / W32 ^ i ≤ 18446744073709551615 := Nat.le_trans (Nat.div_le_self _ _) (by omega)
    by_cases hi : i < ln N
    · have hp := div_pos_ln hi
      have hd : (((N / W32 ^ i : Nat) : Int)) % 4294967296 = (dg N i : Int) := by unfold dg; rw [w32_eq]; omega
      have hn2 := div_next N i
      have hu : ((N / W32 ^ i : Nat) : Int) / 4294967296 = ((N / W32 ^ (i + 1) : Nat) : Int) := by rw [← hn2]; omega
      have hH' : ∀ j, j < i + 1 → appZ Nat H (fun _ => dg N i) i j = dg N j := fun j hj => by
        unfold appZ
        by_cases h : j < i
        · rw [if_pos h]; exact hH j h
        · rw [if_neg h, show j = i by omega]
      repeat' ((conv => whnf); first | refine Ja ?_ | refine Jc ?_ | refine Je ?_)
      refine ⟨⟨fun _ => dg N i, one_le hd, fun _ _ _ _ => rfl, ?_⟩⟩
      repeat' ((conv => whnf); first | refine Ja ?_)
      exact ⟨(i + 1, _), [.s 2 3], ⟨hi, hH'⟩, by show ln N - (i + 1) < ln N - i; omega, by
        refine ⟨?_, ?_, rfl⟩
        · repeat (first | exact TmE.nil | refine TmE.cons (by first | exact AvLe.refl _ | exact AvLe.int hu) ?_)
        · repeat (first | exact OwnE.nil | refine OwnE.cons rfl (BlkLe.refl _) ?_)⟩
    · obtain rfl : i = ln N := by omega
      have e0 := div_end N
      repeat' ((conv => whnf); first | refine Jf ?_)
      refine ⟨⟨_, _, rfl, rfl, ?_⟩⟩
      exact .agg (.cons (.refl _) (.cons (dsL_le hH) .nil))
theorem Z_sp (n : Int) (h1 : -9223372036854775808 ≤ n) (h2 : n ≤ 9223372036854775807) : Sp CX 12 [int .i64 n] (zA n) := Z_core n h1 h2 n.natAbs rfl
end Go.Proofs.YtdjfndfkjbjcpaaGreatDoor

