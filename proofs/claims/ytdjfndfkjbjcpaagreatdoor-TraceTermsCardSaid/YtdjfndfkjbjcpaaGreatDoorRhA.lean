/- The reference's class numbers in letters: residues, fractions, forms that are moved, Automorphs, Weighted. -/
import Derived.Test.YtdjfndfkjbjcpaaGreatDoorRgD
import Derived.Test.YtdjfndfkjbjcpaaGreatDoorQfR
import Derived.Test.YtdjfndfkjbjcpaaGreatDoorPkTcA
namespace HP
theorem tmod_emodQ (n m : Int) (hm : 0 < m) : -m < n.tmod m ∧ n.tmod m < m ∧ n % m = if n.tmod m < 0 then n.tmod m + m else n.tmod m := by
  obtain ⟨k, rfl⟩ : ∃ k : Nat, m = k := ⟨m.toNat, by omega⟩
  have hk : 0 < k := by omega
  by_cases h0 : n < 0
  · have e : n = -((n.natAbs : Nat) : Int) := by omega
    generalize n.natAbs = a at *
    subst e
    have t1 : (-(a : Int)).tmod k = -((a % k : Nat) : Int) := by rw [Int.neg_tmod]; rfl
    have ml : a % k < k := Nat.mod_lt _ hk
    rw [t1]
    refine ⟨by omega, by omega, ?_⟩
    by_cases hz : a % k = 0
    · rw [if_neg (by omega), (dm_even hz).2, hz]; rfl
    · rw [if_pos (by omega), (dm_low hk hz).2]; omega
  · have t1 : n.tmod k = n % k := Int.tmod_eq_emod_of_nonneg (by omega)
    have e1 := Int.emod_nonneg n (show (k : Int) ≠ 0 by omega)
    have e2 := Int.emod_lt_of_pos n hm
    rw [t1, if_neg (by omega)]
    exact ⟨by omega, e2, rfl⟩
def vQ (a b c x y : Int) : Int := a * x * x + b * x * y + c * y * y
def bQ3 (a b c p q r s : Int) : Int := 2 * a * p * q + b * (p * s + q * r) + 2 * c * r * s
def pI (i : Nat) : Int := ((i % 3 : Nat) : Int) - 1
def qI (i : Nat) : Int := ((i / 3 % 3 : Nat) : Int) - 1
def rI (i : Nat) : Int := ((i / 9 % 3 : Nat) : Int) - 1
def sI (i : Nat) : Int := ((i / 27 : Nat) : Int) - 1
def autT (b c : Int) (i : Nat) : Prop := pI i * sI i - qI i * rI i = 1 ∧ vQ 1 b c (pI i) (rI i) = 1 ∧ bQ3 1 b c (pI i) (qI i) (rI i) (sI i) = b ∧ vQ 1 b c (qI i) (sI i) = c
instance (b c : Int) (i : Nat) : Decidable (autT b c i) := inferInstanceAs (Decidable (_ ∧ _))
def autN (b c : Int) : Nat → Nat
  | 0 => 0
  | m + 1 => autN b c m + if autT b c m then 1 else 0
theorem autN_le (b c : Int) : ∀ m, autN b c m ≤ m
  | 0 => Nat.le_refl _
  | m + 1 => by
    have := autN_le b c m
    unfold autN
    split <;> omega
def idB (D : Nat) : Int := if D % 4 = 0 then 0 else 1
def idC (D : Nat) : Int := if D % 4 = 0 then (D / 4 : Nat) else ((D + 1) / 4 : Nat)
theorem aut_chk : allB 513 (fun D => !(Nat.beq (D % 4) 0 || Nat.beq (D % 4) 3) || (Nat.beq D 0 || Nat.beq (autN (idB D) (idC D) 81) (untN D))) = true := by decide +kernel
theorem aut_at {D : Nat} (h : posD D) (h2 : D ≤ 512) : autN (idB D) (idC D) 81 = untN D := by
  have c := allB_at aut_chk (show D < 513 by omega)
  have e : (Nat.beq (D % 4) 0 || Nat.beq (D % 4) 3) = true := by
    rcases h.2.2 with h | h
    · rw [h]; rfl
    · rw [h]; rfl
  have e0 : Nat.beq D 0 = false := beq_f (by have := h.1; omega)
  rw [e, e0] at c
  exact Nat.eq_of_beq_eq_true c
end HP
namespace Go.Proofs.YtdjfndfkjbjcpaaGreatDoor
open Go Go.RowKit Go.VG HP
theorem bmodQ_sp (n m : Int) (hm : 0 < m) (hb : m ≤ 4611686018427387904) (_n1 : -9223372036854775808 ≤ n) (_n2 : n ≤ 9223372036854775807) : Sp CX 58 [int .i64 n, int .i64 m] (int .i64 (n % m)) := by
  obtain ⟨b1, b2, b3⟩ := tmod_emodQ n m hm
  rw [b3]
  by_cases ht : n.tmod m < 0
  · rw [if_pos ht]
    refine fn_sp (C := CX) [] [] tysX_ok mixed Tryz.func58 rfl (by kernel_rfl) Tryz.ntmps58 rfl rfl ?_
    repeat' ((conv => whnf); first | refine Ja ?_ | refine Jb ?_ | refine Je ?_)
    refine ⟨⟨_, _, rfl, rfl, ?_⟩⟩
    exact AvLe.refl _
  · rw [if_neg ht]
    refine fn_sp (C := CX) [] [] tysX_ok mixed Tryz.func58 rfl (by kernel_rfl) Tryz.ntmps58 rfl rfl ?_
    repeat' ((conv => whnf); first | refine Ja ?_ | refine Jf ?_)
    refine ⟨⟨_, _, rfl, rfl, ?_⟩⟩
    exact AvLe.refl _
theorem FracQ_sp (n d : Int) (hd : 0 < d) (hn1 : -4611686018427387904 ≤ n) (hn2 : n ≤ 4611686018427387904) (hd2 : d ≤ 4611686018427387904) : Sp CX 53 [int .i64 n, int .i64 d] (qA (Rat.divInt n d)) := by
  obtain ⟨G, hG⟩ : ∃ G, G = Int.gcd n d := ⟨_, rfl⟩
  have G0 : 0 < G := by rw [hG]; exact Int.gcd_pos_of_ne_zero_right _ (by omega)
  obtain ⟨f1, f2⟩ := frac_pos (n := n) hd (g := (G : Int)) (by rw [hG])
  have rb := rat_bd (a := n) (b := d) (by omega)
  have z1 := Z_sp (Rat.divInt n d).num (by omega) (by omega)
  have z2 := Z_sp ((Rat.divInt n d).den : Int) (by omega) (by omega)
  refine fn_sp (C := CX) [] [] tysX_ok mixed Tryz.func53 rfl (by kernel_rfl) Tryz.ntmps53 rfl rfl ?_
  repeat' ((conv => whnf); first | refine Jb ?_ | refine Jf ?_)
  refine ⟨⟨Nat × Nat, fun (x, y) => ⟨[(0, int .i64 n), (1, int .i64 d), (4, .v (.c (.loc 0 0))), (5, int .i64 x), (6, int .i64 y)], [(0, .st rZs)], 1⟩, fun (x, y) => x ≤ 4611686018427387904 ∧ y ≤ 4611686018427387904 ∧ G = Nat.gcd x y, fun (_, y) => y, ⟨(n.natAbs, d.natAbs), [], ⟨by omega, by omega, hG⟩, by
    refine ⟨?_, ?_, rfl⟩
    · refine .cons (.refl _) (.cons (.refl _) (.cons (.refl _) (.cons (.int ?_) (.cons (.int ?_) .nil))))
      · show (if n < -n then -n else n) = _
        split <;> omega
      · omega
    · exact .cons rfl (.refl _) .nil⟩, ?_⟩⟩
  rintro ⟨x, y⟩ ⟨x1, y1, e⟩
  by_cases hy : y = 0
  · subst hy
    rw [Nat.gcd_zero_right] at e
    subst e
    have i1 : InK .i64 (n.tdiv G) := by rw [f1]; show -9223372036854775808 ≤ (Rat.divInt n d).num ∧ (Rat.divInt n d).num ≤ 9223372036854775807; omega
    have i2 : InK .i64 (d.tdiv G) := by rw [f2]; show -9223372036854775808 ≤ ((Rat.divInt n d).den : Int) ∧ ((Rat.divInt n d).den : Int) ≤ 9223372036854775807; omega
    repeat' ((conv => whnf); first | (refine Ob.mk ⟨by omega, i2⟩ ?_) | (refine Ob.mk ⟨by omega, i1⟩ ?_) | refine Jf ?_ | refine Ji ?_ | refine Jj ?_ | refine Jk rfl ?_ | refine Sp.call (z1) (.cons (.int f1) .nil) rfl (AvLe.refl _) ?_ | refine Sp.call (z2) (.cons (.int f2) .nil) rfl (AvLe.refl _) ?_)
    refine ⟨⟨_, _, rfl, rfl, ?_⟩⟩
    exact AvLe.refl _
  · have er : (x : Int).tmod y = ((x % y : Nat) : Int) := (Int.ofNat_tmod x y).symm
    have ml : x % y < y := Nat.mod_lt _ (by omega)
    have eg : G = Nat.gcd y (x % y) := by rw [e, Nat.gcd_comm x y, Nat.gcd_rec y x, Nat.gcd_comm]
    clear z1 z2 f1 f2 rb
    repeat' ((conv => whnf); first | refine Ja ?_ | refine Je ?_ | refine Ji ?_ | refine Jk rfl ?_ | refine Jl ?_ | refine Jo ?_ | refine Jp ?_ | refine Jq rfl ?_)
    exact ⟨(y, x % y), [], ⟨y1, by omega, eg⟩, ml, by
      refine ⟨?_, ?_, rfl⟩
      · exact .cons (.refl _) (.cons (.refl _) (.cons (.refl _) (.cons (.refl _) (.cons (.int er) .nil))))
      · exact .cons rfl (.refl _) .nil⟩
theorem run_eqqf (a b c a' b' c' : Int) (w : World) : (Op.equal 106 (.agg #[.int .i64 a, .int .i64 b, .int .i64 c]) (.agg #[.int .i64 a', .int .i64 b', .int .i64 c'])).run Tryz.prog w = .ok (decide (a = a' ∧ b = b' ∧ c = c')) w := by
  have hs : Tryz.prog.stoodInHeld 106 = false := by kernel_rfl
  have h3 : ∀ x y w, (Op.equalIn 9999 3 (.int .i64 x) (.int .i64 y)).run Tryz.prog w = .ok (x == y) w := fun x y w => by
    unfold Op.equalIn
    simp [run_underlying Tryz.underlying3]
  have p0 : ∀ (a b c : Int) w, (part 3 #[.int .i64 a, .int .i64 b, .int .i64 c] 0).run Tryz.prog w = .ok (.int .i64 a) w := fun a b c w => run_part (tysOk_get (l := tysX) (t := 3) tysX_ok rfl) [.int .i64 a, .int .i64 b, .int .i64 c] 0 w (Nat.le_of_ble_eq_true rfl) rfl
  have p1 : ∀ (a b c : Int) w, (part 3 #[.int .i64 a, .int .i64 b, .int .i64 c] 1).run Tryz.prog w = .ok (.int .i64 b) w := fun a b c w => run_part (tysOk_get (l := tysX) (t := 3) tysX_ok rfl) [.int .i64 a, .int .i64 b, .int .i64 c] 1 w (Nat.le_of_ble_eq_true rfl) rfl
  have p2 : ∀ (a b c : Int) w, (part 3 #[.int .i64 a, .int .i64 b, .int .i64 c] 2).run Tryz.prog w = .ok (.int .i64 c) w := fun a b c w => run_part (tysOk_get (l := tysX) (t := 3) tysX_ok rfl) [.int .i64 a, .int .i64 b, .int .i64 c] 2 w (Nat.le_of_ble_eq_true rfl) rfl
  unfold Op.equal Op.maxDepth Op.equalIn
  simp [run_underlying Tryz.underlying106, hs, h3, p0, p1, p2]
  by_cases e1 : a = a' <;> by_cases e2 : b = b' <;> by_cases e3 : c = c' <;> simp [e1, e2, e3]
theorem qf_eqob {K : Bool → Prop} (a b c a' b' c' : Int) (h : K (decide (a = a' ∧ b = b' ∧ c = c'))) : EqOb CX .eql 106 [ix a, ix b, ix c] [ix a', ix b', ix c'] K := by
  refine ⟨⟨decide (a = a' ∧ b = b' ∧ c = c'), h, fun x y ρ cs cs' w h1 h2 => ?_⟩⟩
  match cs, h1 with
  | [u1, u2, u3], ⟨⟨_, e1⟩, ⟨_, e2⟩, ⟨_, e3⟩, _⟩ =>
  match cs', h2 with
  | [v1, v2, v3], ⟨⟨_, f1⟩, ⟨_, f2⟩, ⟨_, f3⟩, _⟩ =>
  have e1 : u1 = .int .i64 a := e1
  have e2 : u2 = .int .i64 b := e2
  have e3 : u3 = .int .i64 c := e3
  have f1 : v1 = .int .i64 a' := f1
  have f2 : v2 = .int .i64 b' := f2
  have f3 : v3 = .int .i64 c' := f3
  subst e1 e2 e3 f1 f2 f3
  have hg : Tryz.prog.eqGuardType Tryz.prog.depth 106 = false := by kernel_rfl
  have hr := run_eqqf a b c a' b' c' w
  show (do eqGuard .eql _ x y _ _; binOp .eql _ _ _ : Sem Value).run Tryz.prog w = _
  simp [eqGuard, hg, binOp, hr]
theorem qf_yes {K : Bool → Prop} {a b c a' b' c' : Int} (e : a = a' ∧ b = b' ∧ c = c') (h : K true) : EqOb CX .eql 106 [ix a, ix b, ix c] [ix a', ix b', ix c'] K := qf_eqob a b c a' b' c' (by rw [decide_eq_true e]; exact h)
theorem qf_no {K : Bool → Prop} {a b c a' b' c' : Int} (e : ¬ (a = a' ∧ b = b' ∧ c = c')) (h : K false) : EqOb CX .eql 106 [ix a, ix b, ix c] [ix a', ix b', ix c'] K := qf_eqob a b c a' b' c' (by rw [decide_eq_false e]; exact h)
theorem rVal_sp (a b c x y : Int) (ha : a.natAbs ≤ 10000) (hb : b.natAbs ≤ 10000) (hc : c.natAbs ≤ 10000) (hx : x.natAbs ≤ 1) (hy : y.natAbs ≤ 1) : Sp CX 160 [.v (.agg [ix a, ix b, ix c]), int .i64 x, int .i64 y] (int .i64 (vQ a b c x y)) := by
  have m1 := mulbz (x := a) (y := x) ha hx
  have m2 := mulbz (x := a * x) (y := x) (X := 10000) (by omega) hx
  have m3 := mulbz (x := b) (y := x) hb hx
  have m4 := mulbz (x := b * x) (y := y) (X := 10000) (by omega) hy
  have m5 := mulbz (x := c) (y := y) hc hy
  have m6 := mulbz (x := c * y) (y := y) (X := 10000) (by omega) hy
  refine fn_sp (C := CX) [] [] tysX_ok mixed Tryz.func160 rfl (by kernel_rfl) Tryz.ntmps160 rfl rfl ?_
  repeat' ((conv => whnf); first | refine Jb ?_)
  refine ⟨⟨_, _, rfl, rfl, ?_⟩⟩
  exact AvLe.refl _
theorem rBy_sp (a b c p q r s : Int) (ha : a.natAbs ≤ 10000) (hb : b.natAbs ≤ 10000) (hc : c.natAbs ≤ 10000) (hp : p.natAbs ≤ 1) (hq : q.natAbs ≤ 1) (hr : r.natAbs ≤ 1) (hs : s.natAbs ≤ 1) : Sp CX 138 [.v (.agg [ix a, ix b, ix c]), .v (.agg [ix p, ix q, ix r, ix s])] (.v (.agg [ix (vQ a b c p r), ix (bQ3 a b c p q r s), ix (vQ a b c q s)])) := by
  have v1 := rVal_sp a b c p r ha hb hc hp hr
  have v2 := rVal_sp a b c q s ha hb hc hq hs
  have m1 := mulbz (x := 2 * a) (y := p) (X := 20000) (by omega) hp
  have m2 := mulbz (x := 2 * a * p) (y := q) (X := 20000) (by omega) hq
  have m3 := mulbz (x := p) (y := s) hp hs
  have m4 := mulbz (x := q) (y := r) hq hr
  have m5 := mulbz (x := b) (y := p * s + q * r) (Y := 2) hb (by omega)
  have m6 := mulbz (x := 2 * c) (y := r) (X := 20000) (by omega) hr
  have m7 := mulbz (x := 2 * c * r) (y := s) (X := 20000) (by omega) hs
  unfold bQ3
  generalize vQ a b c p r = A at *
  generalize vQ a b c q s = C at *
  refine fn_sp (C := CX) [] [] tysX_ok mixed Tryz.func138 rfl (by kernel_rfl) Tryz.ntmps138 rfl rfl ?_
  repeat' ((conv => whnf); first | refine Jb ?_ | refine Ji ?_ | refine Jj ?_ | refine Jk rfl ?_ | refine Jy v1 ?_ | refine Jy v2 ?_)
  refine ⟨⟨_, _, rfl, rfl, ?_⟩⟩
  exact AvLe.refl _
theorem rReduce_sp (b c : Int) (hb : b = 0 ∨ b = 1) (hc : 1 ≤ c) (_hc2 : c ≤ 1100) : Sp CX 137 [.v (.agg [ix 1, ix b, ix c])] (.v (.agg [ix 1, ix b, ix c])) := by
  have is := rIs_yes 1 b c (by omega) (by
    unfold isR
    refine ⟨?_, hc, .inl (by omega)⟩
    split <;> omega)
  refine fn_sp (C := CX) [] [] tysX_ok mixed Tryz.func137 rfl (by kernel_rfl) Tryz.ntmps137 rfl rfl ?_
  repeat' ((conv => whnf); first | refine Ja ?_)
  refine ⟨⟨Unit, fun _ => ⟨[(1, .v (.c (.loc 0 0))), (2, .v (.c (.loc 1 0)))], [(0, .st [ix 1, ix b, ix c]), (1, .st [ix 0, ix 0, ix 0])], 2⟩, fun _ => True, fun _ => 0, ⟨(), [], trivial, Ent.g⟩, ?_⟩⟩
  rintro ⟨⟩ -
  repeat' ((conv => whnf); first | refine Jf ?_ | refine Jy is ?_)
  refine ⟨⟨_, _, rfl, rfl, ?_⟩⟩
  exact AvLe.refl _
set_option maxHeartbeats 8000000 in
set_option maxRecDepth 20000 in
theorem rAut_sp (b c : Int) (hb : b = 0 ∨ b = 1) (hc : 1 ≤ c) (hc2 : c ≤ 1100) : Sp CX 100 [.v (.agg [ix 1, ix b, ix c])] (int .i64 (autN b c 81)) := by
  have rd := rReduce_sp b c hb hc hc2
  obtain ⟨T, hT⟩ : ∃ T, T = autN b c 81 := ⟨_, rfl⟩
  rw [← hT]
  refine fn_sp (C := CX) [] [] tysX_ok mixed Tryz.func100 rfl (by kernel_rfl) Tryz.ntmps100 rfl rfl ?_
  repeat' ((conv => whnf); first | refine Ja ?_ | refine Jy rd ?_)
  refine ⟨⟨Nat × Nat, fun (i, n) => ⟨[(1, .v (.c (.loc 0 0))), (3, int .i64 n), (4, int .i64 i)], [(0, .st [ix 1, ix b, ix c])], 1⟩, fun (i, n) => i ≤ 81 ∧ n = autN b c i, fun (i, _) => 81 - i, ⟨(0, 0), [], ⟨by omega, rfl⟩, Ent.g⟩, ?_⟩⟩
  rintro ⟨i, n⟩ ⟨hi, hn⟩
  by_cases hc81 : i < 81
  · have e1 : (i : Int).tmod 3 - 1 = pI i := by rw [show (i : Int).tmod 3 = ((i % 3 : Nat) : Int) from (Int.ofNat_tmod i 3).symm]; rfl
    have e2 : ((i : Int).tdiv 3).tmod 3 - 1 = qI i := by rw [show (i : Int).tdiv 3 = ((i / 3 : Nat) : Int) from (Int.ofNat_tdiv i 3).symm, show ((i / 3 : Nat) : Int).tmod 3 = ((i / 3 % 3 : Nat) : Int) from (Int.ofNat_tmod _ 3).symm]; rfl
    have e3 : ((i : Int).tdiv 9).tmod 3 - 1 = rI i := by rw [show (i : Int).tdiv 9 = ((i / 9 : Nat) : Int) from (Int.ofNat_tdiv i 9).symm, show ((i / 9 : Nat) : Int).tmod 3 = ((i / 9 % 3 : Nat) : Int) from (Int.ofNat_tmod _ 3).symm]; rfl
    have e4 : (i : Int).tdiv 27 - 1 = sI i := by rw [show (i : Int).tdiv 27 = ((i / 27 : Nat) : Int) from (Int.ofNat_tdiv i 27).symm]; rfl
    have bp : (pI i).natAbs ≤ 1 := by unfold pI; omega
    have bq : (qI i).natAbs ≤ 1 := by unfold qI; omega
    have br : (rI i).natAbs ≤ 1 := by unfold rI; omega
    have bs : (sI i).natAbs ≤ 1 := by unfold sI; omega
    have by_ := rBy_sp 1 b c (pI i) (qI i) (rI i) (sI i) (by omega) (by omega) (by omega) bp bq br bs
    have hnb : n ≤ i := by rw [hn]; exact autN_le b c i
    have ns : autN b c (i + 1) = n + if autT b c i then 1 else 0 := by rw [autN, ← hn]
    have d1 := mulbz (x := (i : Int).tmod 3 - 1) (y := (i : Int).tdiv 27 - 1) (X := 1) (Y := 1) (by rw [e1]; exact bp) (by rw [e4]; exact bs)
    have d2 := mulbz (x := ((i : Int).tdiv 3).tmod 3 - 1) (y := ((i : Int).tdiv 9).tmod 3 - 1) (X := 1) (Y := 1) (by rw [e2]; exact bq) (by rw [e3]; exact br)
    have ed : ((i : Int).tmod 3 - 1) * ((i : Int).tdiv 27 - 1) - (((i : Int).tdiv 3).tmod 3 - 1) * (((i : Int).tdiv 9).tmod 3 - 1) = pI i * sI i - qI i * rI i := by rw [e1, e2, e3, e4]
    clear hT hn rd
    by_cases hd : pI i * sI i - qI i * rI i = 1
    · rw [hd] at ed
      by_cases hq : vQ 1 b c (pI i) (rI i) = 1 ∧ bQ3 1 b c (pI i) (qI i) (rI i) (sI i) = b ∧ vQ 1 b c (qI i) (sI i) = c
      · rw [if_pos (show autT b c i from ⟨hd, hq⟩)] at ns
        generalize vQ 1 b c (pI i) (rI i) = A at *
        generalize bQ3 1 b c (pI i) (qI i) (rI i) (sI i) = B at *
        generalize vQ 1 b c (qI i) (sI i) = C at *
        repeat' ((conv => whnf); first | (refine qf_yes hq ?_) | refine Ja ?_ | refine Jb ?_ | refine Je ?_ | refine Ji ?_ | refine Jj ?_ | refine Jk rfl ?_ | refine Sp.call (by_) (.cons (.refl _) (.cons (.agg (.cons (.int e1) (.cons (.int e2) (.cons (.int e3) (.cons (.int e4) .nil))))) .nil)) rfl (AvLe.refl _) ?_)
        exact ⟨(i + 1, n + 1), [], ⟨by omega, ns.symm⟩, by show 81 - (i + 1) < 81 - i; omega, Ent.g⟩
      · rw [if_neg (fun h : autT b c i => hq h.2), Nat.add_zero] at ns
        generalize vQ 1 b c (pI i) (rI i) = A at *
        generalize bQ3 1 b c (pI i) (qI i) (rI i) (sI i) = B at *
        generalize vQ 1 b c (qI i) (sI i) = C at *
        repeat' ((conv => whnf); first | (refine qf_no hq ?_) | refine Ja ?_ | refine Jb ?_ | refine Je ?_ | refine Jf ?_ | refine Ji ?_ | refine Jj ?_ | refine Jk rfl ?_ | refine Sp.call (by_) (.cons (.refl _) (.cons (.agg (.cons (.int e1) (.cons (.int e2) (.cons (.int e3) (.cons (.int e4) .nil))))) .nil)) rfl (AvLe.refl _) ?_)
        exact ⟨(i + 1, n), [], ⟨by omega, ns.symm⟩, by show 81 - (i + 1) < 81 - i; omega, Ent.g⟩
    · rw [if_neg (fun h : autT b c i => hd h.1), Nat.add_zero] at ns
      rw [← ed] at hd
      clear by_
      repeat' ((conv => whnf); first | refine Ja ?_ | refine Jb ?_ | refine Je ?_ | refine Jf ?_ | refine Ji ?_ | refine Jj ?_ | refine Jk rfl ?_)
      exact ⟨(i + 1, n), [], ⟨by omega, ns.symm⟩, by show 81 - (i + 1) < 81 - i; omega, Ent.g⟩
  · obtain rfl : i = 81 := by omega
    obtain rfl : n = T := by rw [hT, hn]
    clear hT hn rd
    repeat' ((conv => whnf); first | refine Jf ?_)
    refine ⟨⟨_, _, rfl, rfl, ?_⟩⟩
    exact AvLe.refl _
theorem id_emod {D : Nat} (h : posD D) : (-(D : Int)) % 2 = idB D ∧ (idB D - -(D : Int)).tdiv 4 = idC D := by
  unfold idB idC
  have := h.2.2
  by_cases h0 : D % 4 = 0
  · rw [if_pos h0, if_pos h0]
    refine ⟨by omega, ?_⟩
    rw [show (0 : Int) - -(D : Int) = (D : Int) by omega]
    exact (Int.ofNat_tdiv D 4).symm
  · rw [if_neg h0, if_neg h0]
    refine ⟨by omega, ?_⟩
    rw [show (1 : Int) - -(D : Int) = ((D + 1 : Nat) : Int) by omega]
    exact (Int.ofNat_tdiv (D + 1) 4).symm
theorem rIdent_sp (D : Nat) (h : posD D) : Sp CX 101 [int .i64 (-(D : Int))] (.v (.agg [ix 1, ix (idB D), ix (idC D)])) := by
  have h2 := h.2.1
  obtain ⟨e1, e2⟩ := id_emod h
  have m := bmodQ_sp (-(D : Int)) 2 (by omega) (by omega) (by omega) (by omega)
  rw [e1] at m
  have b : idB D = 0 ∨ idB D = 1 := by unfold idB; split <;> omega
  generalize idB D = B at *
  refine fn_sp (C := CX) [] [] tysX_ok mixed Tryz.func101 rfl (by kernel_rfl) Tryz.ntmps101 rfl rfl ?_
  repeat' ((conv => whnf); first | refine Ja ?_ | refine Jb ?_ | refine Jy m ?_)
  refine ⟨⟨_, _, rfl, rfl, ?_⟩⟩
  exact .agg (.cons (.refl _) (.cons (.refl _) (.cons (.int e2) .nil)))
theorem half_wt {h : Nat} {u : Nat} (hu : u = 6 ∨ u = 4 ∨ u = 2) : Rat.divInt (2 * (h : Int)) (u : Int) = Rat.divInt (h : Int) ((u / 2 : Nat) : Int) := by
  have key : ∀ v : Int, v ≠ 0 → Rat.divInt (2 * (h : Int)) (2 * v) = Rat.divInt h v := fun v hv => Rat.divInt_mul_left (by decide)
  rcases hu with rfl | rfl | rfl
  · exact key 3 (by decide)
  · exact key 2 (by decide)
  · exact key 1 (by decide)
theorem rWeighted_sp (D : Nat) (h : posD D) (h5 : D ≤ 512) : Sp CX 59 [int .i64 (-(D : Int))] (qA (sx (w6 D))) := by
  have c := rClasses_sp D h.2.1
  have l := clsN_le h.2.1
  have i := rIdent_sp D h
  have bb : idB D = 0 ∨ idB D = 1 := by unfold idB; split <;> omega
  have bc : 1 ≤ idC D ∧ idC D ≤ 1100 := by
    have h1 := h.1
    have h2 := h.2.2
    unfold idC
    split <;> omega
  have a := rAut_sp (idB D) (idC D) bb bc.1 bc.2
  rw [aut_at h h5] at a
  have hu : untN D = 6 ∨ untN D = 4 ∨ untN D = 2 := by unfold untN; split <;> (try split) <;> omega
  have f := FracQ_sp (2 * (clsN D : Int)) (untN D) (by omega) (by omega) (by omega) (by omega)
  rw [half_wt hu, wt_sx] at f
  generalize sx (w6 D) = X at *
  generalize clsN D = H at *
  generalize untN D = U at *
  generalize idB D = B at *
  generalize idC D = C at *
  refine fn_sp (C := CX) [] [] tysX_ok mixed Tryz.func59 rfl (by kernel_rfl) Tryz.ntmps59 rfl rfl ?_
  repeat' ((conv => whnf); first | refine Jb ?_ | refine Jy c ?_ | refine Jy i ?_ | refine Jy a ?_ | refine Jy f ?_)
  refine ⟨⟨_, _, rfl, rfl, ?_⟩⟩
  exact AvLe.refl _
end Go.Proofs.YtdjfndfkjbjcpaaGreatDoor
