/- The walks of math/bits.Len, arith.raise and arith.PowMod. -/
import Derived.Test.YtedfcemebdlgfaaGreatDoorAriF
import Derived.Lib.BitFns
namespace Go.Proofs.YtedfcemebdlgfaaGreatDoor
open Go.RowKit HP

theorem tab_size : (Lib.len8tab.size : Int) = 256 := by rw [Lib.len8tab_size]; rfl
theorem tab_get (i : Int) (h : i.toNat < Lib.len8tab.size) : (((Lib.len8tab[i.toNat]'h).toNat : Nat) : Int) = Lib.len8 i := by
  unfold Lib.len8
  rw [getElem?_pos Lib.len8tab i.toNat h]; rfl
theorem len_part (x : Nat) (k : Nat) (y : Int) (h : y.toNat < Lib.len8tab.size) (hy : y.toNat = x / 2 ^ k) (hx : x < 2 ^ 64) (h0 : 0 ≤ y) (h1 : y ≤ 255) (hk : 2 ^ k ≤ x) (hk2 : k ≤ 56) : wrap64 ((k : Int) + wrap64 (((Lib.len8tab[y.toNat]'h).toNat : Nat) : Int)) = Lib.bitLen x := by
  have l := Lib.bitLen_le8' y h0 h1
  rw [tab_get y h, Lib.len8_of y h0 h1, IntWalk.wrap64_in (Lib.bitLen y.toNat : Int) (by omega), IntWalk.wrap64_in _ (by omega), Lib.bitLen_shift k x hk hx, ← hy]
  simp
theorem len_part0 (y : Int) (h : y.toNat < Lib.len8tab.size) (h0 : 0 ≤ y) (h1 : y ≤ 255) : wrap64 (wrap64 (((Lib.len8tab[y.toNat]'h).toNat : Nat) : Int)) = Lib.bitLen y.toNat := by
  have l := Lib.bitLen_le8' y h0 h1
  rw [tab_get y h, Lib.len8_of y h0 h1, IntWalk.wrap64_in (Lib.bitLen y.toNat : Int) (by omega), IntWalk.wrap64_in _ (by omega)]

set_option maxHeartbeats 4000000 in
set_option maxRecDepth 100000 in
theorem len64_any (x : Int) (w : World) (h0 : 0 ≤ x) (h1 : x ≤ 18446744073709551615) :
    Calls Tryz.prog 95 #[.int .u64 x] w fun e w' => e = .returned (.int .i64 (Lib.bitLen x.toNat)) ∧ w = w' := by
  go_enter Tryz.func95, Tryz.ntmps95
  go_wp2
  all_goals first
    | (exfalso; have hs := tab_size; omega)
    | (go_ret; refine ⟨congrArg Ending.returned (congrArg (Value.int IntKind.i64) ?_), rfl⟩)
  all_goals first
    | exact len_part x.toNat 56 (x / 4294967296 / 65536 / 256) _ (by omega) (by omega) (by omega) (by omega) (by omega) (by omega)
    | exact len_part x.toNat 48 (x / 4294967296 / 65536) _ (by omega) (by omega) (by omega) (by omega) (by omega) (by omega)
    | exact len_part x.toNat 40 (x / 4294967296 / 256) _ (by omega) (by omega) (by omega) (by omega) (by omega) (by omega)
    | exact len_part x.toNat 32 (x / 4294967296) _ (by omega) (by omega) (by omega) (by omega) (by omega) (by omega)
    | exact len_part x.toNat 24 (x / 65536 / 256) _ (by omega) (by omega) (by omega) (by omega) (by omega) (by omega)
    | exact len_part x.toNat 16 (x / 65536) _ (by omega) (by omega) (by omega) (by omega) (by omega) (by omega)
    | exact len_part x.toNat 8 (x / 256) _ (by omega) (by omega) (by omega) (by omega) (by omega) (by omega)
    | exact len_part0 x _ (by omega) (by omega)

theorem len_any (x : Int) (w : World) (h0 : 0 ≤ x) (h1 : x ≤ 18446744073709551615) :
    Calls Tryz.prog 75 #[.int .u64 x] w fun e w' => e = .returned (.int .i64 (Lib.bitLen x.toNat)) ∧ w = w' := by
  go_enter Tryz.func75, Tryz.ntmps75
  go_wp2_with (go_at_call 95; refine (len64_any x _ h0 h1).mono ?_; rintro e w' ⟨rfl, rfl⟩)
  go_ret
  exact ⟨rfl, rfl⟩

theorem lt_bitLenAux : ∀ (f x : Nat), x < 2 ^ f → x < 2 ^ Lib.bitLenAux f x
  | 0, x, h => by simpa [Lib.bitLenAux] using h
  | f + 1, x, h => by
    rw [Lib.bitLenAux]
    split
    · next h0 => subst h0; simp
    · rw [Nat.pow_succ] at h
      have := lt_bitLenAux f (x / 2) (by omega)
      rw [Nat.add_comm, Nat.pow_succ]
      omega
theorem lt_bitLen (x : Nat) (h : x < 2 ^ 64) : x / 2 ^ Lib.bitLen x = 0 := Nat.div_eq_of_lt (lt_bitLenAux 64 x h)
theorem bitLen_64 (x : Nat) (h : x < 2 ^ 64) : Lib.bitLen x ≤ 64 := Lib.bitLen_le x 64 (by omega) h

theorem sq_step (a m : Int) (q : Nat) : (a ^ q % m) * (a ^ q % m) % m = a ^ (2 * q) % m := by
  rw [show 2 * q = q + q by omega, Int.pow_add, ← Int.mul_emod]
theorem mul_step (a m : Int) (q : Nat) : (a ^ q % m) * a % m = a ^ (q + 1) % m := by
  rw [Int.pow_succ]; exact ((Cong.emod m _).mul (Cong.refl m a)).emod_eq

theorem and_bit (i : Nat) (hi : i < 9223372036854775808) : bits BinOp.and IntKind.i64 (i : Int) 1 = ((i % 2 : Nat) : Int) := by
  have t : (2 : Int) ^ 63 = 9223372036854775808 := by decide
  have h := bits_mask .i64 63 (by decide) (fun n h0 h1 => by rw [t] at h1; rw [IntKind.wrap_i64]; omega) 1 (by decide) (i : Int) (by omega) (by rw [t]; omega)
  rw [show ((2 : Int) ^ 1 - 1) = 1 by decide] at h
  rw [h]
  omega

set_option maxHeartbeats 1000000 in
set_option maxRecDepth 100000 in
theorem raise_any (a : Int) (N : Nat) (m : Int) (w : World) (hN : N ≤ 9223372036854775807) (ha : 0 ≤ a) (ham : a ≤ 2147483647) (hm : 0 < m) (hm2 : m ≤ 2147483647) :
    Calls Tryz.prog 110 #[.int .i64 a, .int .i64 N, .int .i64 m] w fun e w' => e = .returned (.int .i64 (a ^ N % m)) ∧ w = w' := by
  have o1 := Int.emod_nonneg 1 (show m ≠ 0 by omega)
  have o2 := Int.emod_lt_of_pos 1 hm
  have ht1 : (1 : Int).tmod m = 1 % m := Int.tmod_eq_emod_of_nonneg (by omega)
  have hl0 : N / 2 ^ Lib.bitLen N = 0 := lt_bitLen N (by omega)
  have hl1 := bitLen_64 N (by omega)
  have c := fun w => len_any (N : Int) w (by omega) (by omega)
  rw [Int.toNat_natCast] at c
  have hst : 1 % m = a ^ (N / 2 ^ Lib.bitLen N) % m := by rw [hl0, Int.pow_zero]
  generalize Lib.bitLen N = L at *
  have C := Lib.hid c
  have HST := Lib.hid hst
  clear c hst hl0
  go_enter Tryz.func110, Tryz.ntmps110
  go_wp2_with (go_at_call 75; refine (C.out _).mono ?_; rintro e w' ⟨rfl, rfl⟩)
  go_loop [7, 8] (fun s t => ∃ (j : Nat) (out : Int), s = .int .i64 out ∧ t = .int .i64 ((j : Int) - 1) ∧ j ≤ 64 ∧ 0 ≤ out ∧ out < m ∧ Hid (out = a ^ (N / 2 ^ j) % m)) (fun _ t => (intOf t + 1).toNat)
  case atStart => exact ⟨L, 1 % m, rfl, rfl, hl1, o1, o2, HST.out⟩
  case round =>
    obtain ⟨j, out, rfl, rfl, h1, h2, h3, h4⟩ := hrel
    by_cases hj : j = 0
    · subst hj
      have e := h4.out
      rw [Nat.pow_zero, Nat.div_one] at e
      have E := Lib.hid e
      clear e h4
      go_wp2
      go_ret
      exact ⟨ret_int E.out, rfl⟩
    · obtain ⟨i, rfl⟩ : ∃ i, j = i + 1 := ⟨j - 1, by omega⟩
      have hb := and_bit (N / 2 ^ i) (by have := Nat.div_le_self N (2 ^ i); omega)
      have hd : N / 2 ^ i = 2 * (N / 2 ^ (i + 1)) + N / 2 ^ i % 2 := by
        rw [Nat.pow_succ, ← Nat.div_div_eq_div_mul]; omega
      obtain ⟨p1, p2⟩ := mul_bd h2 (by omega) h2 (by omega)
      have q1 := Int.emod_nonneg (out * out) (show m ≠ 0 by omega)
      have q2 := Int.emod_lt_of_pos (out * out) hm
      have s := sq_step a m (N / 2 ^ (i + 1))
      rw [← h4.out] at s
      obtain ⟨r1, r2⟩ := mul_bd q1 (by omega) ha ham
      have s1 := Int.emod_nonneg (out * out % m * a) (show m ≠ 0 by omega)
      have s2 := Int.emod_lt_of_pos (out * out % m * a) hm
      rw [Int.natCast_ediv, Int.natCast_pow] at hb
      by_cases ho : N / 2 ^ i % 2 = 1
      · have hb1 : (bits BinOp.and IntKind.i64 ((N : Int) / 2 ^ i) 1 == 1) = true := by rw [show (2 : Int) = ((2 : Nat) : Int) from rfl, hb, ho]; rfl
        have e : out * out % m * a % m = a ^ (N / 2 ^ i) % m := by
          rw [s, hd, ho]; exact mul_step a m _
        have E := Lib.hid e
        clear e s hb hd h4 ho
        go_wp2
        go_round
        case rel => exact ⟨i, _, rfl, by go_num, by omega, s1, s2, E.out⟩
        case measure => simp [intOf]
      · have ho' : N / 2 ^ i % 2 = 0 := by omega
        have hb1 : (bits BinOp.and IntKind.i64 ((N : Int) / 2 ^ i) 1 == 1) = false := by rw [show (2 : Int) = ((2 : Nat) : Int) from rfl, hb, ho']; rfl
        have e : out * out % m = a ^ (N / 2 ^ i) % m := by
          rw [s, hd, ho']; rfl
        have E := Lib.hid e
        clear e s hb hd h4 ho ho'
        go_wp2
        go_round
        case rel => exact ⟨i, _, rfl, by go_num, by omega, q1, q2, E.out⟩
        case measure => simp [intOf]

theorem pow_emod (a m : Int) (N : Nat) : (a % m) ^ N % m = a ^ N % m := ((Cong.emod m a).pow N).emod_eq
end Go.Proofs.YtedfcemebdlgfaaGreatDoor
