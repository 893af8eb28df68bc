/- Own texts joined: LawRecip, RefD, RefE, AriH, AriI, AriT, AriO, RefF, AriP, AriJ, AriK, AriR, RefI, Shelf, AriS, SpA, NumW, NumX, VgU, NumY, VgV, VgX, VgW, VgY, DmA, DmB, DmC. -/
import Derived.Test.YteamlpflgfmieaaDoorPkB
import Derived.Lib.BitFns
import Derived.Maps.AppendAt
import Derived.Shelf.Small.Bits
import Derived.Shelf.Strconv.Itoa0
import Derived.Shelf.Sort.Plain
import Derived.Test.YteamlpflgfmieaaDoorProg
import Derived.Sort.OwnSortedInts
import Derived.StillTailTactics
import Derived.Deep.DeepCutAuto
/- The law ArithReciprocity: its walk. -/
namespace Go.Proofs.YteamlpflgfmieaaDoor
open Go.RowKit HP

theorem tri_bd {x : Int} (h : Tri x) : -1 ≤ x ∧ x ≤ 1 := by rcases h with rfl | rfl | rfl <;> decide
theorem mul_bd31 {a b : Int} (h1 : -2147483648 < a) (h2 : a < 2147483648) (h3 : -2147483648 < b) (h4 : b < 2147483648) : -9223372036854775808 ≤ a * b ∧ a * b ≤ 9223372036854775807 := by
  have h := mul31 (x := a.natAbs) (y := b.natAbs) (by omega) (by omega)
  rw [← Int.natAbs_mul] at h
  omega

/-- what the second half of the law rests on -/
theorem recip_fact (a n : Int) : 0 < a → 0 < n → a % 2 = 1 → n % 2 = 1 → kro a n * kro n a = if Int.gcd a n = 1 then (if a % 4 = 3 ∧ n % 4 = 3 then -1 else 1) else 0 := by
  intro h1 h2 h3 h4
  rw [kro_recip h1 h2 h3 h4]
  obtain ⟨x, rfl⟩ := Int.eq_ofNat_of_zero_le (Int.le_of_lt h1)
  obtain ⟨y, rfl⟩ := Int.eq_ofNat_of_zero_le (Int.le_of_lt h2)
  rfl

/-- the law's last lines -/
theorem recip_end {a n A C g : Int} {x : Bool} (H : Hid (0 < a → 0 < n → a % 2 = 1 → n % 2 = 1 → A * C = if Int.gcd a n = 1 then (if a % 4 = 3 ∧ n % 4 = 3 then -1 else 1) else 0))
    (G : Hid (gcdW a n = g)) (h1 : 1 ≤ a) (h2 : ¬ a % 2 = 0) (h3 : 1 ≤ n) (h4 : ¬ n % 2 = 0)
    (hx : (g ≠ 1 → x = (A * C == 0)) ∧ (g = 1 → (a % 4 = 3 ∧ n % 4 = 3) → x = (A * C == -1)) ∧ (g = 1 → ¬ (a % 4 = 3 ∧ n % 4 = 3) → x = (A * C == 1))) : x = true := by
  have e := H.out (by omega) (by omega) (by omega) (by omega)
  have eg : gcdW a n = g := G
  unfold gcdW at eg
  obtain ⟨x1, x2, x3⟩ := hx
  by_cases hg : Int.gcd a n = 1
  · rw [if_pos hg] at e
    rw [hg] at eg
    have hg1 : g = 1 := by rw [← eg]; decide
    by_cases h : a % 4 = 3 ∧ n % 4 = 3
    · rw [if_pos h] at e
      rw [x2 hg1 h, e]; rfl
    · rw [if_neg h] at e
      rw [x3 hg1 h, e]; rfl
  · rw [if_neg hg] at e
    have hg1 : g ≠ 1 := by
      rw [← eg]
      split
      · decide
      · omega
    rw [x1 hg1, e]; rfl

end Go.Proofs.YteamlpflgfmieaaDoor

/- The walk of the reference's Kronecker. -/
namespace Go.Proofs.YteamlpflgfmieaaDoor
open Go.RowKit HP

theorem tri_pow {s : Int} (h : Tri s) : ∀ k : Nat, Tri (s ^ k)
  | 0 => by rw [Int.pow_zero]; exact .inr (.inl rfl)
  | k + 1 => by rw [Int.pow_succ]; exact (tri_pow h k).mul h
/-- the product over a part of the factorization -/
def kpart (a : Int) (l : List (Nat × Nat)) : Int := prodL (fun p e => kr a p ^ e) l
theorem kpart_tri (a : Int) : ∀ l : List (Nat × Nat), (∀ x ∈ l, Prm x.1) → Tri (kpart a l)
  | [], _ => .inr (.inl rfl)
  | (_, e) :: l, h => (tri_pow (kr_tri (h _ (List.mem_cons_self ..)) a) e).mul (kpart_tri a l fun x hx => h x (List.mem_cons_of_mem _ hx))
theorem kpart_next (a : Int) {l : List (Nat × Nat)} {i p e : Nat} (h : l[i]? = some (p, e)) : kpart a (l.take (i + 1)) = kpart a (l.take i) * kr a p ^ e := by
  obtain ⟨hi, he⟩ := List.getElem?_eq_some_iff.1 h
  unfold kpart
  rw [List.take_succ_eq_append_getElem hi, he, prodL_append]
  simp [prodL]
theorem kpart_all (a : Int) {M : Nat} (hM : 0 < M) : kpart a (facs M) = jac a M := (ext_facs _ M hM).symm
theorem leg_yes {a : Int} {p : Nat} (h : a ^ ((p - 1) / 2) % (p : Int) = (p : Int) - 1) : leg a p = -1 := by unfold leg; rw [if_pos h]
theorem leg_no {a : Int} {p : Nat} (h : ¬ a ^ ((p - 1) / 2) % (p : Int) = (p : Int) - 1) : leg a p = a ^ ((p - 1) / 2) % (p : Int) := by unfold leg; rw [if_neg h]

theorem tri_of_bd {x : Int} (h1 : -1 ≤ x) (h2 : x ≤ 1) : Tri x := by unfold Tri; omega
theorem o_next {sg o S : Int} {a : Int} {l : List (Nat × Nat)} {i p e : Nat} (h : l[i]? = some (p, e)) (ho : o = sg * kpart a (l.take i)) (hS : S = kr a p) : o * S ^ e = sg * kpart a (l.take (i + 1)) := by
  rw [kpart_next a h, ho, hS]; grind

end Go.Proofs.YteamlpflgfmieaaDoor

/- The walk of the reference's Fundamental. -/
namespace Go.Proofs.YteamlpflgfmieaaDoor
open Go.RowKit HP

theorem ret3 {k1 k2 k3 : IntKind} {a b c a' b' c' : Int} (h1 : a = a') (h2 : b = b') (h3 : c = c') :
    Ending.returned (.tuple #[.int k1 a, .int k2 b, .int k3 c]) = .returned (.tuple #[.int k1 a', .int k2 b', .int k3 c']) := by rw [h1, h2, h3]

end Go.Proofs.YteamlpflgfmieaaDoor

/- The walk of arith.Fundamental. -/
namespace Go.Proofs.YteamlpflgfmieaaDoor
open Go.RowKit HP

set_option maxHeartbeats 1000000 in
set_option maxRecDepth 100000 in
theorem fund1_any (p e : Nat) (x y : Int) (b6 b3 : Nat) (w : World) (hne : b6 ≠ b3) (hp : 1 ≤ p) (hp2 : p ≤ 2147483648) (he : e ≤ 2147483648) (hx1 : p ^ (e % 2) ≤ 2147483648) (hy1 : p ^ (e / 2) ≤ 2147483648)
    (h1 : w.cell? ⟨b6, 0, none⟩ = some (.int .i64 x)) (h2 : w.frozen? ⟨b6, 0, none⟩ = false) (h3 : w.cell? ⟨b3, 0, none⟩ = some (.int .i64 y)) (h4 : w.frozen? ⟨b3, 0, none⟩ = false) :
    Calls Tryd.prog 57 #[.int .i64 p, .int .i64 e, .pointer (some ⟨b6, 0, none⟩), .pointer (some ⟨b3, 0, none⟩)] w fun x' w' => x' = .returned (.tuple #[]) ∧ ∃ m k, w' = (((w.setCell ⟨b6, 0, none⟩ (.int .i64 (wrap64 (x * ((p ^ (e % 2) : Nat) : Int))))).drewN m).setCell ⟨b3, 0, none⟩ (.int .i64 (wrap64 (y * ((p ^ (e / 2) : Nat) : Int))))).drewN k := by
  have c1 := fun w => power_any p (e % 2) w hp hp2 hx1 (by omega)
  have c2 := fun w => power_any p (e / 2) w hp hp2 hy1 (by omega)
  have e1 : ((e % 2 : Nat) : Int) = (e : Int) % 2 := by omega
  have e2 : ((e / 2 : Nat) : Int) = (e : Int) / 2 := by omega
  rw [e1] at c1
  rw [e2] at c2
  have e3 : (e : Int) % 2 = (e : Int).tmod 2 := rfl
  have e4 : (e : Int) / 2 = IntKind.i64.wrap ((e : Int).tdiv 2) := by rw [IntWalk.i64_left, IntWalk.wrap64_in _ (by rw [Int.tdiv_eq_ediv_of_nonneg (by omega)]; omega), Int.tdiv_eq_ediv_of_nonneg (by omega)]
  rw [e3] at c1
  rw [e4] at c2
  generalize p ^ (e % 2) = q at *
  generalize p ^ (e / 2) = r at *
  have C1 := Lib.hid c1
  have C2 := Lib.hid c2
  clear c1 c2 e1 e2 e3 e4
  have h5 : ∀ v, (w.setCell ⟨b6, 0, none⟩ v).cell? ⟨b3, 0, none⟩ = some (.int .i64 y) := fun v => (World.cell?_setCell_other _ _ _ _ (by simp)).trans h3
  have h6 : ∀ v, (w.setCell ⟨b6, 0, none⟩ v).frozen? ⟨b3, 0, none⟩ = false := fun v => (World.frozen?_setCell _ _ _ _).trans h4
  have h7 : ∀ v, (w.setCell ⟨b6, 0, none⟩ v).drew.cell? ⟨b3, 0, none⟩ = some (.int .i64 y) := fun v => by rw [show (w.setCell ⟨b6, 0, none⟩ v).drew = (w.setCell ⟨b6, 0, none⟩ v).drewN 1 from rfl, World.cell?_drewN]; exact h5 v
  have h8 : ∀ v, (w.setCell ⟨b6, 0, none⟩ v).drew.frozen? ⟨b3, 0, none⟩ = false := fun v => by rw [show (w.setCell ⟨b6, 0, none⟩ v).drew = (w.setCell ⟨b6, 0, none⟩ v).drewN 1 from rfl, World.frozen?_drewN]; exact h6 v
  go_enter Tryd.func57, Tryd.ntmps57
  go_wp2
  go_region_with (go_at_call 54; refine (C1.out _).mono ?_; rintro x w' ⟨rfl, rfl⟩)
  all_goals go_wp2
  all_goals go_region_with (go_at_call 54; refine (C2.out _).mono ?_; rintro x w' ⟨rfl, rfl⟩)
  all_goals go_end0
  all_goals exact ⟨rfl, 1, 1, by simp only [IntWalk.i64_left]; rfl⟩
end Go.Proofs.YteamlpflgfmieaaDoor

/- The walk of arith.Fundamental. -/
namespace Go.Proofs.YteamlpflgfmieaaDoor
open Go.RowKit HP

theorem enters57 (args : Array Value) (w : World) : (callFunc 57 args).run Tryd.prog w = .ok (.enter 57 args) w := enters_of Tryd.func57 (by kernel_rfl) rfl args w

/-- what the loop keeps: the cells of the free part and of the root -/
def FundI (w : World) (l : List (Nat × Nat)) (wr : World) : Prop :=
  wr.cell? ⟨w.heap.size + 1, 0, none⟩ = some (.int .i64 (frL l)) ∧ wr.frozen? ⟨w.heap.size + 1, 0, none⟩ = false ∧ wr.cell? ⟨w.heap.size, 0, none⟩ = some (.int .i64 (sqL l)) ∧ wr.frozen? ⟨w.heap.size, 0, none⟩ = false ∧ Below w.heap.size w wr

theorem fundI_step {w wr : World} {l : List (Nat × Nat)} {p e : Nat} {m k : Nat} (h : FundI w l wr) (hf : 1 ≤ frL (l ++ [(p, e)]) ∧ frL (l ++ [(p, e)]) ≤ 2147483647) (hq : 1 ≤ sqL (l ++ [(p, e)]) ∧ sqL (l ++ [(p, e)]) ≤ 2147483647) :
    FundI w (l ++ [(p, e)]) ((((wr.setCell ⟨w.heap.size + 1, 0, none⟩ (.int .i64 (wrap64 (frL l * ((p ^ (e % 2) : Nat) : Int))))).drewN m).setCell ⟨w.heap.size, 0, none⟩ (.int .i64 (wrap64 (sqL l * ((p ^ (e / 2) : Nat) : Int))))).drewN k) := by
  obtain ⟨h1, h2, h3, h4, h5⟩ := h
  have e1 : frL (l ++ [(p, e)]) = frL l * ((p ^ (e % 2) : Nat) : Int) := by unfold frL; rw [prodL_append]; simp [prodL]
  have e2 : sqL (l ++ [(p, e)]) = sqL l * ((p ^ (e / 2) : Nat) : Int) := by unfold sqL; rw [prodL_append]; simp [prodL]
  rw [e1] at hf
  rw [e2] at hq
  rw [IntWalk.wrap64_in _ (by omega), IntWalk.wrap64_in _ (by omega), ← e1, ← e2]
  refine ⟨?_, ?_, ?_, ?_, ?_⟩
  · rw [World.cell?_drewN, World.cell?_setCell_other _ _ _ _ (by simp), World.cell?_drewN]; exact World.cell?_setCell_same _ _ _ h1
  · rw [World.frozen?_drewN]
    refine (World.frozen?_setCell _ _ _ _).trans ?_
    rw [World.frozen?_drewN]
    exact (World.frozen?_setCell _ _ _ _).trans h2
  · rw [World.cell?_drewN]
    have e5 : ((wr.setCell ⟨w.heap.size + 1, 0, none⟩ (.int .i64 (frL (l ++ [(p, e)])))).drewN m).cell? ⟨w.heap.size, 0, none⟩ = some (.int .i64 (sqL l)) := by
      rw [World.cell?_drewN, World.cell?_setCell_other _ _ _ _ (by simp)]
      exact h3
    exact World.cell?_setCell_same _ _ _ e5
  · rw [World.frozen?_drewN]
    refine (World.frozen?_setCell _ _ _ _).trans ?_
    rw [World.frozen?_drewN]
    exact (World.frozen?_setCell _ _ _ _).trans h4
  · exact below_drewN ((below_drewN (h5.setCell (by simp) _) m).setCell (by simp) _) k

theorem fund_range (d : Int) (w : World) (h : d = 0 ∨ 2147483647 < d ∨ d < -2147483647) :
    Calls Tryd.prog 32 #[.int .i64 d] w fun x w' => x = .returned (.tuple #[.int .i64 0, .int .i64 0, .int .i64 2]) ∧ Below w.heap.size w w' := by
  by_cases h1 : d = 0
  · obtain rfl := h1
    go_enter Tryd.func32, Tryd.ntmps32
    go_wp2
    refine bodyPost_ret (v := .tuple #[.int .i64 0, .int .i64 0, .int .i64 2]) (by simp [results, Tryd.results32, go_sem]) rfl ⟨rfl, ?_⟩
    go_grown
  · have b1 : (d == 0) = false := beq_eq_false_iff_ne.2 h1
    by_cases h2 : d < -2147483647
    · have d2 : decide (d < -2147483647) = true := by simpa using h2
      clear h
      go_enter Tryd.func32, Tryd.ntmps32
      go_wp2
      refine bodyPost_ret (v := .tuple #[.int .i64 0, .int .i64 0, .int .i64 2]) (by simp [results, Tryd.results32, go_sem]) rfl ⟨rfl, ?_⟩
      go_grown
    · have d2 : decide (d < -2147483647) = false := by simpa using h2
      have d3 : decide (2147483647 < d) = true := by simp; omega
      clear h
      go_enter Tryd.func32, Tryd.ntmps32
      go_wp2
      refine bodyPost_ret (v := .tuple #[.int .i64 0, .int .i64 0, .int .i64 2]) (by simp [results, Tryd.results32, go_sem]) rfl ⟨rfl, ?_⟩
      go_grown

theorem fund_bad (d : Int) (w : World) (h : ¬ (d = 0 ∨ 2147483647 < d ∨ d < -2147483647)) (h4 : 1 < d % 4) :
    Calls Tryd.prog 32 #[.int .i64 d] w fun x w' => x = .returned (.tuple #[.int .i64 0, .int .i64 0, .int .i64 15]) ∧ Below w.heap.size w w' := by
  have b1 : (d == 0) = false := beq_eq_false_iff_ne.2 (by omega)
  have d2 : decide (2147483647 < d) = false := by simp; omega
  have d3 : decide (d < -2147483647) = false := by simp; omega
  clear h
  go_enter Tryd.func32, Tryd.ntmps32
  go_wp2_with (go_at_call 55; refine (residue_any d 4 _ (by omega) (by omega)).mono ?_; rintro x w' ⟨rfl, rfl⟩)
  refine bodyPost_ret (v := .tuple #[.int .i64 0, .int .i64 0, .int .i64 15]) (by simp [results, Tryd.results32, go_sem]) rfl ⟨rfl, ?_⟩
  go_grown

set_option maxHeartbeats 2000000 in
set_option maxRecDepth 100000 in
theorem fund_ok (d : Int) (w : World) (h : ¬ (d = 0 ∨ 2147483647 < d ∨ d < -2147483647)) (h4 : ¬ 1 < d % 4) :
    Calls Tryd.prog 32 #[.int .i64 d] w fun x w' => x = .returned (.tuple #[.int .i64 (fundOut d).1, .int .i64 (fundOut d).2.1, .int .i64 (fundOut d).2.2]) ∧ Below w.heap.size w w' := by
  have hmf : ∀ (fn : Fn) (first cap : Array Value) (w : World), (Instr.makeFunc fn first cap).run Tryd.prog w = .ok (.func fn first cap) w := fun _ _ _ _ => rfl
  have b1 : (d == 0) = false := beq_eq_false_iff_ne.2 (by omega)
  have d2 : decide (2147483647 < d) = false := by simp; omega
  have d3 : decide (d < -2147483647) = false := by simp; omega
  have d4 : decide (1 < d % 4) = false := by simpa using h4
  have hout : (fundT d % 4 = 1 → fundOut d = (fundT d, sqL (facs d.natAbs), 0)) ∧ (¬ fundT d % 4 = 1 → fundOut d = (4 * fundT d, sqL (facs d.natAbs) / 2, 0)) := by
    rcases fund_cases d with ⟨_, e⟩ | ⟨_, _, e⟩ | ⟨_, _, ⟨h3, e⟩ | ⟨h3, e⟩⟩
    · exact absurd e h
    · exact absurd e h4
    · exact ⟨fun _ => e, fun x => absurd h3 x⟩
    · exact ⟨fun x => absurd x h3, fun _ => e⟩
  unfold fundT at hout
  have hd : (d < 0 ∧ d = -(d.natAbs : Int)) ∨ (0 < d ∧ d = (d.natAbs : Int)) := by omega
  have hn0 : 0 < d.natAbs := by omega
  have hn1 : d.natAbs ≤ 2147483647 := by omega
  generalize d.natAbs = n at *
  have hbd : ∀ p e, (p, e) ∈ facs n → 1 ≤ p ∧ p ≤ 2147483648 ∧ e ≤ 2147483648 ∧ p ^ (e % 2) ≤ 2147483648 ∧ p ^ (e / 2) ≤ 2147483648 := fun p e hx => by
    obtain ⟨_, b, c, d, f, g, _⟩ := facs_bounds hn0 hx
    have hpe : p ^ e ≤ n := by assumption
    have k1 : p ^ (e % 2) ≤ p ^ e := Nat.pow_le_pow_right (by omega) (by omega)
    have k2 : p ^ (e / 2) ≤ p ^ e := Nat.pow_le_pow_right (by omega) (by omega)
    exact ⟨by omega, by omega, by omega, by omega, by omega⟩
  have hfp := fun l r (h : facs n = l ++ r) => fr_bd hn0 h
  have hqp := fun l r (h : facs n = l ++ r) => sq_bd hn0 h
  have key : ∀ (wr : World) (hI : FundI w [] wr), Calls Tryd.prog 56 #[.int .i64 n, .func (.func 57) #[] #[.pointer (some ⟨w.heap.size + 1, 0, none⟩), .pointer (some ⟨w.heap.size, 0, none⟩)]] wr fun e w' => e = .returned (.tuple #[]) ∧ FundI w (facs n) w' := by
    intro wr hI
    refine factors_any 57 _ enters57 n wr hn0 (by omega) (FundI w) hI ?_
    intro l p e r wr' hl hI'
    have hm : (p, e) ∈ facs n := by rw [hl]; simp
    obtain ⟨k1, k2, k3, k4, k5⟩ := hbd p e hm
    refine (fund1_any p e (frL l) (sqL l) (w.heap.size + 1) w.heap.size wr' (by omega) k1 k2 k3 k4 k5 hI'.1 hI'.2.1 hI'.2.2.1 hI'.2.2.2.1).mono ?_
    rintro x w' ⟨rfl, m, k, rfl⟩
    have a := hfp (l ++ [(p, e)]) r (by rw [hl, List.append_assoc]; rfl)
    have b := hqp (l ++ [(p, e)]) r (by rw [hl, List.append_assoc]; rfl)
    exact ⟨rfl, fundI_step hI' (by omega) (by omega)⟩
  have hfb := fr_bd hn0 (r := []) (List.append_nil _).symm
  have hqb := sq_bd hn0 (r := []) (List.append_nil _).symm
  unfold FundI at key
  generalize frL (facs n) = Fr at *
  generalize sqL (facs n) = Sq at *
  obtain ⟨fb1, fb2⟩ := hfb
  obtain ⟨qb1, qb2⟩ := hqb
  have KEY := Lib.hid key
  clear key hbd hfp hqp h h4
  obtain ⟨hT1, hT2⟩ := hout
  rcases hd with ⟨hd, rfl⟩ | ⟨hd, rfl⟩
  · rw [if_pos hd, show (-1 : Int) * Fr = -Fr by omega] at hT1 hT2
    have HT1 := Lib.hid hT1
    have HT2 := Lib.hid hT2
    clear hT1 hT2
    go_enter Tryd.func32, Tryd.ntmps32
    go_wp2_with (first
      | (go_at_call 55; refine (residue_any (-(n : Int)) 4 _ (by omega) (by omega)).mono ?_; rintro x w' ⟨rfl, rfl⟩)
      | fail)
    refine (KEY.out _ ⟨?_, ?_, ?_, ?_, ?_⟩).mono ?_
    · rw [World.cell?_alloc_at _ _ _ _ (by simp)]; rfl
    · exact World.frozen?_alloc_at _ _ _ _ (by simp)
    · rw [World.cell?_alloc_past _ _ _ (by simp), World.cell?_alloc_at _ _ _ _ rfl]; rfl
    · exact (World.frozen?_alloc_past _ _ _ (by simp)).trans (World.frozen?_alloc_at _ _ _ _ rfl)
    · exact ((Below.refl _ _).alloc (Nat.le_refl _) _).alloc (by simp) _
    rintro x w' ⟨rfl, c6, f6, c3, f3, hb⟩
    have HB := Lib.hid hb
    have hne : w.heap.size ≠ w.heap.size + 1 := by omega
    have hB6 : w.heap.size ≤ w.heap.size + 1 := by omega
    have hB3 : w.heap.size ≤ w.heap.size := by omega
    clear hb KEY
    generalize w.heap.size + 1 = B6 at *
    generalize hH : w.heap.size = B3 at c3 f3 hne hB3 ⊢
    have s3 : ∀ v, (w'.setCell ⟨B6, 0, none⟩ v).cell? ⟨B3, 0, none⟩ = some (.int .i64 Sq) := fun v => (World.cell?_setCell_other _ _ _ _ (by simp)).trans c3
    have s6 : ∀ v, (w'.setCell ⟨B6, 0, none⟩ v).cell? ⟨B6, 0, none⟩ = some v := fun v => World.cell?_setCell_same _ _ _ c6
    have t3 : ∀ v, (w'.setCell ⟨B6, 0, none⟩ v).frozen? ⟨B3, 0, none⟩ = false := fun v => (World.frozen?_setCell _ _ _ _).trans f3
    have q3 : ∀ v v', ((w'.setCell ⟨B6, 0, none⟩ v).setCell ⟨B3, 0, none⟩ v').cell? ⟨B3, 0, none⟩ = some v' := fun v v' => World.cell?_setCell_same _ _ _ (s3 v)
    by_cases ht : -Fr % 4 = 1
    · have hb1 : (-Fr % 4 != 1) = false := by simpa using ht
      have OUT := Lib.hid (HT1.out ht)
      clear ht HT1 HT2
      go_wp2_with (go_at_call 55; refine (residue_any (-Fr) 4 _ (by omega) (by omega)).mono ?_; rintro x w'' ⟨rfl, rfl⟩)
      go_region
      all_goals go_wp2
      all_goals refine bodyPost_ret (v := .tuple #[.int .i64 (-Fr), .int .i64 (Sq), .int .i64 0]) (by simp [results, Tryd.results32, go_sem, q3]) rfl ⟨by rw [OUT.out], ?_⟩
      all_goals exact below_drewN ((HB.out.setCell (show w.heap.size ≤ B6 by omega) _).setCell (show w.heap.size ≤ B3 by omega) _) 1
    · have hb1 : (-Fr % 4 != 1) = true := by simpa using ht
      have OUT := Lib.hid (HT2.out ht)
      clear ht HT1 HT2
      go_wp2_with (go_at_call 55; refine (residue_any (-Fr) 4 _ (by omega) (by omega)).mono ?_; rintro x w'' ⟨rfl, rfl⟩)
      go_region
      all_goals go_wp2
      all_goals refine bodyPost_ret (v := .tuple #[.int .i64 (4 * -Fr), .int .i64 (Sq / 2), .int .i64 0]) (by simp [results, Tryd.results32, go_sem, q3]) rfl ⟨by rw [OUT.out], ?_⟩
      all_goals exact below_drewN ((HB.out.setCell (show w.heap.size ≤ B6 by omega) _).setCell (show w.heap.size ≤ B3 by omega) _) 1
  · rw [if_neg (by omega), Int.one_mul] at hT1 hT2
    have HT1 := Lib.hid hT1
    have HT2 := Lib.hid hT2
    clear hT1 hT2
    go_enter Tryd.func32, Tryd.ntmps32
    go_wp2_with (first
      | (go_at_call 55; refine (residue_any ((n : Int)) 4 _ (by omega) (by omega)).mono ?_; rintro x w' ⟨rfl, rfl⟩)
      | fail)
    refine (KEY.out _ ⟨?_, ?_, ?_, ?_, ?_⟩).mono ?_
    · rw [World.cell?_alloc_at _ _ _ _ (by simp)]; rfl
    · exact World.frozen?_alloc_at _ _ _ _ (by simp)
    · rw [World.cell?_alloc_past _ _ _ (by simp), World.cell?_alloc_at _ _ _ _ rfl]; rfl
    · exact (World.frozen?_alloc_past _ _ _ (by simp)).trans (World.frozen?_alloc_at _ _ _ _ rfl)
    · exact ((Below.refl _ _).alloc (Nat.le_refl _) _).alloc (by simp) _
    rintro x w' ⟨rfl, c6, f6, c3, f3, hb⟩
    have HB := Lib.hid hb
    have hne : w.heap.size ≠ w.heap.size + 1 := by omega
    have hB6 : w.heap.size ≤ w.heap.size + 1 := by omega
    have hB3 : w.heap.size ≤ w.heap.size := by omega
    clear hb KEY
    generalize w.heap.size + 1 = B6 at *
    generalize hH : w.heap.size = B3 at c3 f3 hne hB3 ⊢
    have s3 : ∀ v, (w'.setCell ⟨B6, 0, none⟩ v).cell? ⟨B3, 0, none⟩ = some (.int .i64 Sq) := fun v => (World.cell?_setCell_other _ _ _ _ (by simp)).trans c3
    have s6 : ∀ v, (w'.setCell ⟨B6, 0, none⟩ v).cell? ⟨B6, 0, none⟩ = some v := fun v => World.cell?_setCell_same _ _ _ c6
    have t3 : ∀ v, (w'.setCell ⟨B6, 0, none⟩ v).frozen? ⟨B3, 0, none⟩ = false := fun v => (World.frozen?_setCell _ _ _ _).trans f3
    have q3 : ∀ v', (w'.setCell ⟨B3, 0, none⟩ v').cell? ⟨B3, 0, none⟩ = some v' := fun v' => World.cell?_setCell_same _ _ _ c3
    by_cases ht : Fr % 4 = 1
    · have hb1 : (Fr % 4 != 1) = false := by simpa using ht
      have OUT := Lib.hid (HT1.out ht)
      clear ht HT1 HT2
      go_wp2_with (go_at_call 55; refine (residue_any (Fr) 4 _ (by omega) (by omega)).mono ?_; rintro x w'' ⟨rfl, rfl⟩)
      go_region
      all_goals go_wp2
      all_goals refine bodyPost_ret (v := .tuple #[.int .i64 (Fr), .int .i64 (Sq), .int .i64 0]) (by simp [results, Tryd.results32, go_sem, q3]) rfl ⟨by rw [OUT.out], ?_⟩
      all_goals exact below_drewN (HB.out.setCell (show w.heap.size ≤ B3 by omega) _) 1
    · have hb1 : (Fr % 4 != 1) = true := by simpa using ht
      have OUT := Lib.hid (HT2.out ht)
      clear ht HT1 HT2
      go_wp2_with (go_at_call 55; refine (residue_any (Fr) 4 _ (by omega) (by omega)).mono ?_; rintro x w'' ⟨rfl, rfl⟩)
      go_region
      all_goals go_wp2
      all_goals refine bodyPost_ret (v := .tuple #[.int .i64 (4 * Fr), .int .i64 (Sq / 2), .int .i64 0]) (by simp [results, Tryd.results32, go_sem, q3]) rfl ⟨by rw [OUT.out], ?_⟩
      all_goals exact below_drewN (HB.out.setCell (show w.heap.size ≤ B3 by omega) _) 1

theorem fund_any (d : Int) (w : World) : Calls Tryd.prog 32 #[.int .i64 d] w fun x w' => x = .returned (.tuple #[.int .i64 (fundOut d).1, .int .i64 (fundOut d).2.1, .int .i64 (fundOut d).2.2]) ∧ Below w.heap.size w w' := by
  rcases fund_cases d with ⟨e, h⟩ | ⟨e, h, h4⟩ | ⟨h, h4, _⟩
  · rw [e]; exact fund_range d w h
  · rw [e]; exact fund_bad d w h h4
  · exact fund_ok d w h h4
end Go.Proofs.YteamlpflgfmieaaDoor

/- The walks of arith.Psi and arith.Mobius. -/
namespace Go.Proofs.YteamlpflgfmieaaDoor
open Go.RowKit HP

set_option maxHeartbeats 400000 in
theorem psi1_any (p e : Nat) (w : World) (hp : 1 ≤ p) (hp2 : p ≤ 2147483648) (he : 1 ≤ e) (he2 : e ≤ 2147483648) (h : p ^ (e - 1) ≤ 2147483648) :
    Calls Tryd.prog 53 #[.int .i64 p, .int .i64 e] w fun x w' => x = .returned (.int .i64 ((p ^ (e - 1) * (p + 1) : Nat) : Int)) ∧ w = w' := by
  have c := power_any p (e - 1) w hp hp2 h (by omega)
  have ec : ((e - 1 : Nat) : Int) = (e : Int) - 1 := by omega
  rw [ec] at c
  generalize p ^ (e - 1) = q at *
  have hb : q * (p + 1) ≤ 2147483648 * 2147483649 := Nat.mul_le_mul h (by omega)
  have hpc : (q : Int) * ((p : Int) + 1) = ((q * (p + 1) : Nat) : Int) := by
    rw [Int.natCast_mul]; rfl
  have C := Lib.hid c
  clear c ec
  generalize q * (p + 1) = r at *
  go_enter Tryd.func53, Tryd.ntmps53
  go_wp2_with (go_at_call 54; refine C.out.mono ?_; rintro x w' ⟨rfl, rfl⟩)
  go_ret
  exact ⟨rfl, rfl⟩
theorem enters53 (args : Array Value) (w : World) : (callFunc 53 args).run Tryd.prog w = .ok (.enter 53 args) w := enters_of Tryd.func53 (by kernel_rfl) rfl args w
theorem psi_any (N : Nat) (w : World) (hN0 : 1 ≤ N) (hN : N ≤ 2147483647) :
    Calls Tryd.prog 31 #[.int .i64 N] w fun x w' => x = .returned (.tuple #[.int .i64 (psi N), .int .i64 0]) ∧ Below w.heap.size w w' := by
  have c := product_any psiF 53 enters53 N w hN0 hN
    (fun p e hm w => by
      obtain ⟨x1, x2, x3, x4, x5, x6, x7⟩ := facs_bounds (by omega) hm
      exact psi1_any p e w (by omega) (by omega) x3 (by omega) (by omega))
    (fun l r h => by
      have := psi_prefix (by omega) h
      have h2 : (N : Int) * N ≤ 2147483647 * 2147483647 := Int.mul_le_mul (by omega) (by omega) (by omega) (by omega)
      omega)
  have C := Lib.hid c
  clear c
  go_enter Tryd.func31, Tryd.ntmps31
  go_wp2_with (go_at_call 52; refine C.out.mono ?_; rintro x w' ⟨rfl, hb⟩)
  go_ret2
  exact ⟨rfl, by assumption⟩
/-- out of range -/
theorem product_no (N : Int) (g : Nat) (w : World) (h : N < 1 ∨ 2147483647 < N) :
    Calls Tryd.prog 52 #[.int .i64 N, .func (.func g) #[] #[]] w fun x w' => x = .returned (.tuple #[.int .i64 0, .int .i64 2]) ∧ Below w.heap.size w w' := by
  have hmf : ∀ (fn : Fn) (first cap : Array Value) (w : World), (Instr.makeFunc fn first cap).run Tryd.prog w = .ok (.func fn first cap) w := fun _ _ _ _ => rfl
  go_enter Tryd.func52, Tryd.ntmps52
  go_wp2_with (go_at_call 63; refine (inRange_no N _ h).mono ?_; rintro x w' ⟨rfl, rfl⟩)
  go_ret2
  exact ⟨rfl, (Below.refl _ _).alloc (Nat.le_refl _) _⟩
theorem phi_no (N : Int) (w : World) (h : N < 1 ∨ 2147483647 < N) :
    Calls Tryd.prog 47 #[.int .i64 N] w fun x w' => x = .returned (.tuple #[.int .i64 0, .int .i64 2]) ∧ Below w.heap.size w w' := by
  go_enter Tryd.func47, Tryd.ntmps47
  go_wp2_with (go_at_call 52; refine (product_no N _ _ h).mono ?_; rintro x w' ⟨rfl, hb⟩)
  go_ret2
  exact ⟨rfl, by assumption⟩
theorem psi_no (N : Int) (w : World) (h : N < 1 ∨ 2147483647 < N) :
    Calls Tryd.prog 31 #[.int .i64 N] w fun x w' => x = .returned (.tuple #[.int .i64 0, .int .i64 2]) ∧ Below w.heap.size w w' := by
  go_enter Tryd.func31, Tryd.ntmps31
  go_wp2_with (go_at_call 52; refine (product_no N _ _ h).mono ?_; rintro x w' ⟨rfl, hb⟩)
  go_ret2
  exact ⟨rfl, by assumption⟩
end Go.Proofs.YteamlpflgfmieaaDoor

/- The walks of math/bits.Len, arith.raise and arith.PowMod. -/
namespace Go.Proofs.YteamlpflgfmieaaDoor
open Go.RowKit HP

theorem tab_size : (Lib.len8tab.size : Int) = 256 := by rw [Lib.len8tab_size]; rfl
theorem tab_get (i : Int) (h : i.toNat < Lib.len8tab.size) : (((Lib.len8tab[i.toNat]'h).toNat : Nat) : Int) = Lib.len8 i := by
  unfold Lib.len8
  rw [getElem?_pos Lib.len8tab i.toNat h]; rfl
theorem len_part (x : Nat) (k : Nat) (y : Int) (h : y.toNat < Lib.len8tab.size) (hy : y.toNat = x / 2 ^ k) (hx : x < 2 ^ 64) (h0 : 0 ≤ y) (h1 : y ≤ 255) (hk : 2 ^ k ≤ x) (hk2 : k ≤ 56) : wrap64 ((k : Int) + wrap64 (((Lib.len8tab[y.toNat]'h).toNat : Nat) : Int)) = Lib.bitLen x := by
  have l := Lib.bitLen_le8' y h0 h1
  rw [tab_get y h, Lib.len8_of y h0 h1, IntWalk.wrap64_in (Lib.bitLen y.toNat : Int) (by omega), IntWalk.wrap64_in _ (by omega), Lib.bitLen_shift k x hk hx, ← hy]
  simp
theorem len_part0 (y : Int) (h : y.toNat < Lib.len8tab.size) (h0 : 0 ≤ y) (h1 : y ≤ 255) : wrap64 (wrap64 (((Lib.len8tab[y.toNat]'h).toNat : Nat) : Int)) = Lib.bitLen y.toNat := by
  have l := Lib.bitLen_le8' y h0 h1
  rw [tab_get y h, Lib.len8_of y h0 h1, IntWalk.wrap64_in (Lib.bitLen y.toNat : Int) (by omega), IntWalk.wrap64_in _ (by omega)]

set_option maxHeartbeats 4000000 in
set_option maxRecDepth 100000 in
theorem len64_any (x : Int) (w : World) (h0 : 0 ≤ x) (h1 : x ≤ 18446744073709551615) :
    Calls Tryd.prog 89 #[.int .u64 x] w fun e w' => e = .returned (.int .i64 (Lib.bitLen x.toNat)) ∧ w = w' := by
  go_enter Tryd.func89, Tryd.ntmps89
  go_wp2
  all_goals first
    | (exfalso; have hs := tab_size; omega)
    | (go_ret; refine ⟨congrArg Ending.returned (congrArg (Value.int IntKind.i64) ?_), rfl⟩)
  all_goals first
    | exact len_part x.toNat 56 (x / 4294967296 / 65536 / 256) _ (by omega) (by omega) (by omega) (by omega) (by omega) (by omega)
    | exact len_part x.toNat 48 (x / 4294967296 / 65536) _ (by omega) (by omega) (by omega) (by omega) (by omega) (by omega)
    | exact len_part x.toNat 40 (x / 4294967296 / 256) _ (by omega) (by omega) (by omega) (by omega) (by omega) (by omega)
    | exact len_part x.toNat 32 (x / 4294967296) _ (by omega) (by omega) (by omega) (by omega) (by omega) (by omega)
    | exact len_part x.toNat 24 (x / 65536 / 256) _ (by omega) (by omega) (by omega) (by omega) (by omega) (by omega)
    | exact len_part x.toNat 16 (x / 65536) _ (by omega) (by omega) (by omega) (by omega) (by omega) (by omega)
    | exact len_part x.toNat 8 (x / 256) _ (by omega) (by omega) (by omega) (by omega) (by omega) (by omega)
    | exact len_part0 x _ (by omega) (by omega)

theorem len_any (x : Int) (w : World) (h0 : 0 ≤ x) (h1 : x ≤ 18446744073709551615) :
    Calls Tryd.prog 78 #[.int .u64 x] w fun e w' => e = .returned (.int .i64 (Lib.bitLen x.toNat)) ∧ w = w' := by
  go_enter Tryd.func78, Tryd.ntmps78
  go_wp2_with (go_at_call 89; refine (len64_any x _ h0 h1).mono ?_; rintro e w' ⟨rfl, rfl⟩)
  go_ret
  exact ⟨rfl, rfl⟩

theorem lt_bitLenAux : ∀ (f x : Nat), x < 2 ^ f → x < 2 ^ Lib.bitLenAux f x
  | 0, x, h => by simpa [Lib.bitLenAux] using h
  | f + 1, x, h => by
    rw [Lib.bitLenAux]
    split
    · next h0 => subst h0; simp
    · rw [Nat.pow_succ] at h
      have := lt_bitLenAux f (x / 2) (by omega)
      rw [Nat.add_comm, Nat.pow_succ]
      omega
theorem lt_bitLen (x : Nat) (h : x < 2 ^ 64) : x / 2 ^ Lib.bitLen x = 0 := Nat.div_eq_of_lt (lt_bitLenAux 64 x h)
theorem bitLen_64 (x : Nat) (h : x < 2 ^ 64) : Lib.bitLen x ≤ 64 := Lib.bitLen_le x 64 (by omega) h

theorem sq_step (a m : Int) (q : Nat) : (a ^ q % m) * (a ^ q % m) % m = a ^ (2 * q) % m := by
  rw [show 2 * q = q + q by omega, Int.pow_add, ← Int.mul_emod]
theorem mul_step (a m : Int) (q : Nat) : (a ^ q % m) * a % m = a ^ (q + 1) % m := by
  rw [Int.pow_succ]; exact ((Cong.emod m _).mul (Cong.refl m a)).emod_eq

theorem and_bit (i : Nat) (hi : i < 9223372036854775808) : bits BinOp.and IntKind.i64 (i : Int) 1 = ((i % 2 : Nat) : Int) := by
  have t : (2 : Int) ^ 63 = 9223372036854775808 := by decide
  have h := bits_mask .i64 63 (by decide) (fun n h0 h1 => by rw [t] at h1; rw [IntKind.wrap_i64]; omega) 1 (by decide) (i : Int) (by omega) (by rw [t]; omega)
  rw [show ((2 : Int) ^ 1 - 1) = 1 by decide] at h
  rw [h]
  omega

theorem pow_emod (a m : Int) (N : Nat) : (a % m) ^ N % m = a ^ N % m := ((Cong.emod m a).pow N).emod_eq
end Go.Proofs.YteamlpflgfmieaaDoor

/- Walks: Inverse, of the program and of the reference. -/
namespace Go.Proofs.YteamlpflgfmieaaDoor
open Go.RowKit HP

theorem ret2 {k1 k2 : IntKind} {a b a' b' : Int} (h1 : a = a') (h2 : b = b') :
    Ending.returned (.tuple #[.int k1 a, .int k2 b]) = .returned (.tuple #[.int k1 a', .int k2 b']) := by rw [h1, h2]

end Go.Proofs.YteamlpflgfmieaaDoor

/- The walks of arith.order and arith.Order. -/
namespace Go.Proofs.YteamlpflgfmieaaDoor
open Go.RowKit HP

/-- what the search for an order keeps in memory: the residue, the modulus, the number so far -/
def OrdW (w : World) (b : Nat) (a m : Int) (n : Nat) (wr : World) : Prop :=
  wr.cell? ⟨w.heap.size, 0, none⟩ = some (.int .i64 a) ∧ wr.cell? ⟨w.heap.size + 1, 0, none⟩ = some (.int .i64 m) ∧ wr.cell? ⟨b, 0, none⟩ = some (.int .i64 n) ∧ wr.frozen? ⟨b, 0, none⟩ = false ∧ w.heap.size + 2 ≤ b ∧ Below w.heap.size w wr
theorem ordW_drewN {w wr : World} {b : Nat} {a m : Int} {n : Nat} (h : OrdW w b a m n wr) (k : Nat) : OrdW w b a m n (wr.drewN k) := by
  obtain ⟨h1, h2, h3, h4, h5, h6⟩ := h
  exact ⟨h1, h2, h3, h4, h5, below_drewN h6 k⟩
theorem ordW_store {w wr : World} {b : Nat} {a m : Int} {n : Nat} (h : OrdW w b a m n wr) (n' : Nat) : OrdW w b a m n' (wr.setCell ⟨b, 0, none⟩ (.int .i64 n')) := by
  obtain ⟨h1, h2, h3, h4, h5, h6⟩ := h
  refine ⟨?_, ?_, ?_, ?_, h5, h6.setCell (by simp; omega) _⟩
  · exact (World.cell?_setCell_other _ _ _ _ (by simp <;> omega)).trans h1
  · exact (World.cell?_setCell_other _ _ _ _ (by simp <;> omega)).trans h2
  · exact World.cell?_setCell_same _ _ _ h3
  · exact (World.frozen?_setCell _ _ _ _).trans h4

theorem one_test {a m : Int} {n d : Nat} (hd : IsOrd a m d) : (a ^ n % m != 1 % m) = !decide (d ∣ n) := by
  have h2 := hd.test n
  by_cases h : d ∣ n
  · simp [h, h2.2 h]
  · have : ¬ a ^ n % m = 1 % m := fun h3 => h (h2.1 h3)
    simp [h, this]

/-- the order and the error, as the document has them -/
noncomputable def ordOf (a m : Int) : Nat := open Classical in if h : ∃ d, IsOrd a m d then h.choose else 0
theorem ordOf_eq {a m : Int} {d : Nat} (h : IsOrd a m d) : ordOf a m = d := by
  have hx : ∃ d, IsOrd a m d := ⟨d, h⟩
  unfold ordOf
  rw [dif_pos hx]
  exact hx.choose_spec.unique h
theorem isOrd_emod {a m : Int} {d : Nat} (h : IsOrd a m d) : IsOrd (a % m) m d :=
  ⟨h.1, fun n => ⟨fun h1 => (h.2 n).1 (((Cong.emod m a).pow n).symm.trans h1), fun h1 => ((Cong.emod m a).pow n).trans ((h.2 n).2 h1)⟩⟩

end Go.Proofs.YteamlpflgfmieaaDoor

/- Walks: trial division, in arith and in the reference. -/
namespace Go.Proofs.YteamlpflgfmieaaDoor
open Go.RowKit HP

end Go.Proofs.YteamlpflgfmieaaDoor

/- Lists of integers as slices: the reference's Primes, the comparison. -/
namespace Go.Proofs.YteamlpflgfmieaaDoor
open Go.RowKit HP

theorem infoInt : (Tryd.prog.info? 3).map (fun i => (i.zero, i.size, i.bytes)) = some (some (.int .i64 0), 1, 8) := by kernel_rfl

/-- the cells of a list of integers -/
def intCells (l : List Int) : List Value := l.map fun x => .int .i64 x
theorem intCells_at {l : List Int} {i : Nat} {x : Int} (h : l[i]? = some x) : (intCells l)[i]? = some (.int .i64 x) := by
  unfold intCells; rw [List.getElem?_map, h]; rfl
/-- a slice value that reads as a list of integers -/
def IntsAt (B : Nat) (w : World) (v : Value) (l : List Int) : Prop :=
  (v = .slice none 0 0 ∧ l = []) ∨ ∃ g cap, v = .slice (some ⟨g, 0, none⟩) l.length cap ∧ l.length ≤ cap ∧ cap ≤ maxLen ∧ B ≤ g ∧ g < w.heap.size ∧ ∀ (i : Nat) (x : Int), l[i]? = some x → w.cell? ⟨g, i, none⟩ = some (.int .i64 x)
theorem intsAt_of_owns {B : Nat} {w : World} {v : Value} {l : List Int} {t : TypeId} (h : w.ownsRow B t 1 v l.length (intCells l)) : IntsAt B w v l := by
  rcases h.2 with ⟨rfl, h0⟩ | ⟨g, cap, cur, rfl, hg, hb, h1, h2, h3, h4⟩
  · exact .inl ⟨rfl, List.length_eq_zero_iff.1 h0⟩
  · refine .inr ⟨g, cap, rfl, h1, h2, hg, ?_, fun i x hi => ?_⟩
    · exact (Array.getElem?_eq_some_iff.1 hb).1
    · have hil : i < l.length := (List.getElem?_eq_some_iff.1 hi).1
      exact (h.cellAt i (by omega)).trans (intCells_at hi)
theorem IntsAt.mono {B C : Nat} {w : World} {v : Value} {l : List Int} (h : IntsAt B w v l) (hC : C ≤ B) : IntsAt C w v l := by
  rcases h with h | ⟨g, cap, h1, h2, h3, h4, h5⟩
  · exact .inl h
  · exact .inr ⟨g, cap, h1, h2, h3, by omega, h5⟩
theorem IntsAt.below {B C : Nat} {w w' : World} {v : Value} {l : List Int} (h : IntsAt B w v l) (hb : Below C w w') (hC : w.heap.size ≤ C) : IntsAt B w' v l := by
  rcases h with h | ⟨g, cap, h1, h2, h3, h4, h5, h6⟩
  · exact .inl h
  · exact .inr ⟨g, cap, h1, h2, h3, h4, by have := hb.size; omega, fun i x hi => (hb.cell (p := ⟨g, i, none⟩) (show g < C by omega)).trans (h6 i x hi)⟩
theorem one_one (k : IntKind) (a : Int) : ∀ u ∈ [Value.int k a], u.oneCell' = true := by
  intro u hu
  simp at hu
  subst hu; rfl
/-- behind an append -/
theorem owns_next1 {B : Nat} {w wr w1 : World} {v v' : Value} {l : List Int} {t : TypeId} {p : Int} {o : Obj} (hown : wr.ownsRow B t 1 v l.length (intCells l)) (hB : w.heap.size ≤ B) (hb : Below w.heap.size w wr)
    (hown' : w1.ownsRow B t 1 v' (l.length + 1) (intCells l ++ [.int .i64 p])) (hg : (wr.alloc o).grownBy w1 v.ownBlock) :
    w1.ownsRow B t 1 v' (l ++ [p]).length (intCells (l ++ [p])) ∧ Below w.heap.size w w1 := by
  refine ⟨by unfold intCells at *; rw [List.map_append, List.length_append]; exact hown', ?_⟩
  exact (hb.alloc (by have := hb.size; omega) o).grown hg (by have := hb.size; simp; omega) (fun k hk => by have := (hown.lt k hk).1; omega)

/-- the primes as integers -/
def prmsI (n : Nat) : List Int := (prms n).map fun (p : Nat) => (p : Int)
theorem prmsI_yes {n : Nat} (h : prmB (n + 1) = true) : prmsI (n + 1) = prmsI n ++ [((n + 1 : Nat) : Int)] := by
  unfold prmsI; rw [prms_yes h, List.map_append]; rfl
theorem prmsI_no {n : Nat} (h : prmB (n + 1) = false) : prmsI (n + 1) = prmsI n := by
  unfold prmsI; rw [prms_no h]
theorem prmsI_one : prmsI 1 = [] := rfl
theorem prmsI_small {n : Nat} (h : n ≤ 1) : prmsI n = [] := by
  have : n = 0 ∨ n = 1 := by omega
  rcases this with rfl | rfl <;> rfl
theorem prmsI_len (n : Nat) : (prmsI n).length ≤ n := by unfold prmsI; rw [List.length_map]; exact prms_len n

end Go.Proofs.YteamlpflgfmieaaDoor

/- The walk of arith.Factor: a slice that a closure appends to. -/
namespace Go.Proofs.YteamlpflgfmieaaDoor
open Go.RowKit HP

theorem grown_set (W : World) (b : Nat) (v : Value) : W.grownBy (W.setCell ⟨b, 0, none⟩ v) (some b) :=
  ⟨rfl, rfl, rfl, by simp [World.setCell], fun k _ hne => by
    have hkb : k ≠ b := fun e => hne (by rw [e])
    simp [World.setCell, Array.getElem?_modify, Ne.symm hkb]⟩
/-- a closure's variable that holds a slice of its own -/
def VarW (w : World) (b : Nat) (t : TypeId) (size n : Nat) (cells : List Value) (wr : World) : Prop :=
  ∃ v, wr.cell? ⟨b, 0, none⟩ = some v ∧ wr.frozen? ⟨b, 0, none⟩ = false ∧ wr.ownsRow w.heap.size t size v n cells ∧ v.ownBlock ≠ some b ∧ w.heap.size ≤ b ∧ b < wr.heap.size ∧ Below w.heap.size w wr
/-- behind an append and the store -/
theorem varW_store {w wr w1 : World} {b : Nat} {t : TypeId} {size n n' : Nat} {cells cells' : List Value} {v v' : Value} {o : Obj} (hB : w.heap.size ≤ b) (hb : b < wr.heap.size) (hbel : Below w.heap.size w wr) (hc : wr.cell? ⟨b, 0, none⟩ = some v) (hf : wr.frozen? ⟨b, 0, none⟩ = false) (hnb : v.ownBlock ≠ some b)
    (hown : wr.ownsRow w.heap.size t size v n cells) (hown' : w1.ownsRow w.heap.size t size v' n' cells') (hg : (wr.alloc o).grownBy w1 v.ownBlock) (hat : v'.ownBlock = v.ownBlock ∨ v'.ownBlock = some (wr.heap.size + 1)) :
    w1.cell? ⟨b, 0, none⟩ = some v ∧ w1.frozen? ⟨b, 0, none⟩ = false ∧ VarW w b t size n' cells' (w1.setCell ⟨b, 0, none⟩ v') := by
  have hne : some b ≠ v.ownBlock := fun e => hnb e.symm
  have hne' : v'.ownBlock ≠ some b := by
    rcases hat with hat | hat
    · rw [hat]; exact hnb
    · rw [hat]; intro e; have := Option.some.inj e; omega
  have k0 : (wr.alloc o).cell? ⟨b, 0, none⟩ = some v := (World.cell?_alloc_past _ _ _ hb).trans hc
  have k1 : w1.cell? ⟨b, 0, none⟩ = some v := (World.cell?_of_block (hg.block b (by simp; omega) hne)).trans k0
  have k2 : w1.frozen? ⟨b, 0, none⟩ = false := (World.frozen?_of_block (hg.block b (by simp; omega) hne)).trans ((World.frozen?_alloc_past _ _ _ hb).trans hf)
  have hb1 : Below w.heap.size w w1 := (hbel.alloc (by have := hbel.size; omega) o).grown hg (by have := hbel.size; simp; omega) (fun k hk => by have := (hown.lt k hk).1; omega)
  refine ⟨k1, k2, v', World.cell?_setCell_same _ _ _ k1, (World.frozen?_setCell _ _ _ _).trans k2, ?_, hne', hB, ?_, hb1.setCell (by simp; omega) _⟩
  · exact hown'.kept (grown_set w1 b v') (.inr hne')
  · have h1 := hg.size
    have h2 : (w1.setCell ⟨b, 0, none⟩ v').heap.size = w1.heap.size := by simp [World.setCell]
    rw [h2]
    simp at h1
    omega

theorem ownsRow_form {w : World} {base : Nat} {e : TypeId} {size : Nat} {v : Value} {n : Nat} {xs : List Value} (h : w.ownsRow base e size v n xs) (hn : 0 < n) :
    ∃ g cap, v = .slice (some ⟨g, 0, none⟩) n cap := by
  rcases h.2 with ⟨_, h0⟩ | ⟨g, cap, cur, hv, _⟩
  · omega
  · exact ⟨g, cap, hv⟩

set_option maxHeartbeats 1000000 in
set_option maxRecDepth 100000 in
theorem factor1_any (p e : Nat) (l : List (Nat × Nat)) (b : Nat) (w wr : World) (hl : l.length ≤ 2147483648) (hW : VarW w b 60 2 l.length (ppCells l) wr) :
    Calls Tryd.prog 69 #[.int .i64 p, .int .i64 e, .pointer (some ⟨b, 0, none⟩)] wr fun x' w' => x' = .returned (.tuple #[]) ∧ VarW w b 60 2 (l ++ [(p, e)]).length (ppCells (l ++ [(p, e)])) w' := by
  obtain ⟨i0, hi, hz0, hz1, hz2⟩ := info_parts infoPP
  obtain ⟨v, hc, hf, hown, hnb, hB, hb, hbel⟩ := hW
  have hsz := hbel.size
  have HBEL := Lib.hid hbel
  have HOWN := Lib.hid hown
  clear hbel
  go_enter Tryd.func69, Tryd.ntmps69
  go_wp2_with (at_builtin; first
    | refine wpList_append_own_at _ rfl _ _ 56 rfl w.heap.size 60 i0 (.agg #[.int .i64 0, .int .i64 0]) 2 16 Tryd.underlying56 hi hz0 hz1 hz2 rfl (by decide) _ _ _ rfl (hown.alloc _) ⟨wr.heap.size, 0, none⟩ 1 1 [.int .i64 p, .int .i64 e] rfl rfl (cell_two_new _ _ _ _) (pair_one _ _ _) (by unfold maxLen; omega) (by omega) (by simp; omega) ?_)
  intro v' w1 hown' hgrow _ hat
  obtain ⟨k1, k2, k3⟩ := varW_store hB hb HBEL.out hc hf hnb hown hown' hgrow hat
  obtain ⟨g, cap, rfl⟩ := ownsRow_form hown' (by omega)
  have K3 := Lib.hid k3
  clear hown' hgrow hown hc hf k3 hat
  go_wp2
  go_end0
  exact ⟨rfl, by rw [ppCells_append, List.length_append]; exact K3.out⟩

theorem enters69 (args : Array Value) (w : World) : (callFunc 69 args).run Tryd.prog w = .ok (.enter 69 args) w := enters_of Tryd.func69 (by kernel_rfl) rfl args w

theorem varW_start (w : World) (t u : TypeId) (size : Nat) : VarW w w.heap.size t size 0 [] (w.alloc (.cells #[.slice none 0 0] u)) := by
  refine ⟨.slice none 0 0, ?_, ?_, World.ownsRow_nil _ _ _ _, (by simp [Value.ownBlock]), Nat.le_refl _, by simp, (Below.refl _ _).alloc (Nat.le_refl _) _⟩
  · rw [World.cell?_alloc_at _ _ _ _ rfl]; rfl
  · exact World.frozen?_alloc_at _ _ _ _ rfl

theorem factor_no (N : Int) (w : World) (h : N < 1 ∨ 2147483647 < N) :
    Calls Tryd.prog 45 #[.int .i64 N] w fun x w' => x = .returned (.tuple #[.slice none 0 0, .int .i64 2]) ∧ w = w' := by
  go_enter Tryd.func45, Tryd.ntmps45
  go_wp2_with (go_at_call 63; refine (inRange_no N _ h).mono ?_; rintro x w' ⟨rfl, rfl⟩)
  go_ret2
  exact ⟨rfl, rfl⟩
set_option maxHeartbeats 1000000 in
set_option maxRecDepth 100000 in
theorem factor_any (N : Nat) (w : World) (hN0 : 1 ≤ N) (hN : N ≤ 2147483647) :
    Calls Tryd.prog 45 #[.int .i64 N] w fun x w' => ∃ v, x = .returned (.tuple #[v, .int .i64 0]) ∧ PPAt w.heap.size w' v (facs N) ∧ Below w.heap.size w w' := by
  have hmf : ∀ (fn : Fn) (first cap : Array Value) (w : World), (Instr.makeFunc fn first cap).run Tryd.prog w = .ok (.func fn first cap) w := fun _ _ _ _ => rfl
  go_enter Tryd.func45, Tryd.ntmps45
  go_wp2_with (go_at_call 63; refine (inRange_yes N _ (by omega) (by omega)).mono ?_; rintro x w' ⟨rfl, rfl⟩)
  refine (factors_any 69 _ enters69 N _ (by omega) (by omega) (fun l wr => Hid (VarW w w.heap.size 60 2 l.length (ppCells l) wr)) ?_ ?_).mono ?_
  · exact varW_start w _ _ 2
  · intro l p e r wr hl hI
    have hlen := prefix_len (by omega) hl
    exact (factor1_any p e l w.heap.size w wr (by omega) hI.out).mono fun x w' ⟨hx, hW⟩ => ⟨hx, hW⟩
  · rintro x w' ⟨rfl, hI⟩
    obtain ⟨v, hc, hf, hown, hnb, hB, hb, hbel⟩ := hI.out
    have hpp2 := ppAt_of_owns hown
    have HPP := Lib.hid hpp2
    have HBEL := Lib.hid hbel
    clear hI hown hbel hpp2 hnb
    go_wp2
    go_ret2
    exact ⟨v, rfl, HPP.out, HBEL.out⟩
end Go.Proofs.YteamlpflgfmieaaDoor

/- The reference's Divisors. -/
namespace Go.Proofs.YteamlpflgfmieaaDoor
open Go.RowKit HP

/-- naturals as integers -/
def intL (l : List Nat) : List Int := l.map fun (x : Nat) => (x : Int)
theorem intL_append (l m : List Nat) : intL (l ++ m) = intL l ++ intL m := List.map_append
theorem intL_one (x : Nat) : intL [x] = [(x : Int)] := rfl
theorem intL_len (l : List Nat) : (intL l).length = l.length := List.length_map _
theorem intL_at {l : List Nat} {i x : Nat} (h : l[i]? = some x) : (intL l)[i]? = some (x : Int) := by unfold intL; rw [List.getElem?_map, h]; rfl

/-- two rows of the call's own that do not share a block -/
def Apart (v u : Value) : Prop := v.ownBlock = none ∨ v.ownBlock ≠ u.ownBlock
theorem Apart.symm {v u : Value} (h : Apart v u) : Apart u v := by
  rcases h with h | h
  · by_cases h2 : u.ownBlock = none
    · exact .inl h2
    · exact .inr (by rw [h]; exact h2)
  · exact .inr fun e => h e.symm
theorem apart_kept {B : Nat} {wr w1 : World} {u v v' : Value} {l : List Int} {t : TypeId} {n : Nat} {o : Obj} (hu : wr.ownsRow B t 1 u n (intCells l)) (hd : Apart u v) (hg : (wr.alloc o).grownBy w1 v.ownBlock) (hat : v'.ownBlock = v.ownBlock ∨ v'.ownBlock = some (wr.heap.size + 1)) :
    w1.ownsRow B t 1 u n (intCells l) ∧ Apart u v' := by
  refine ⟨(hu.alloc o).kept hg hd, ?_⟩
  rcases hd with hd | hd
  · exact .inl hd
  · by_cases h0 : u.ownBlock = none
    · exact .inl h0
    · refine .inr ?_
      rcases hat with hat | hat
      · rw [hat]; exact hd
      · rw [hat]
        intro e
        have := (hu.lt _ e).2
        omega

end Go.Proofs.YteamlpflgfmieaaDoor

/-
  DERIVED: THE SHELF's CONTRACTS AT THIS DUMP, IN PLAIN WORDS (tools/lay-plain.mjs out of 'TrydShelf.lean', which tools/lay-shelf.mjs wrote): THE SAME DECLARATIONS UNDER THE SAME NAMES: 'import', 'namespace', 'open', 'def', 'theorem' AND NOTHING ELSE: no command of the shelf's: FOR A HAND-IN. Each laying: the table of numbers ('.._ren') and one theorem, a field a fact of the dump's own or the kernel's comparison; each contract: ONE APPLICATION.
-/
namespace Go.Proofs
open Go.Shelf
def Tryd.lays128_ren : Go.Shelf.Ren := ⟨fun | 128 => 88 | n => n, fun | 51 => 85 | 3 => 3 | 4 => 4 | 46 => 74 | 5 => 5 | 9 => 9 | n => n, fun | n => n⟩
theorem Tryd.lays128 : Go.Proofs.Lays.n128 Tryd.prog Tryd.lays128_ren := {
  mixed := by kernel_rfl
  f128 := Tryd.func88.trans (congrArg some (by kernel_rfl))
  t3 := Tryd.underlying3
  a3 := Tryd.isAgg3
  z3 := Tryd.sizeOf3
  v3 := Tryd.zeroValue3
  t4 := Tryd.underlying4
  a4 := Tryd.isAgg4
  z4 := Tryd.sizeOf4
  v4 := Tryd.zeroValue4
  t5 := Tryd.underlying5
  a5 := Tryd.isAgg5
  z5 := Tryd.sizeOf5
  v5 := Tryd.zeroValue5
  t9 := Tryd.underlying9
  a9 := Tryd.isAgg9
  z9 := Tryd.sizeOf9
  v9 := Tryd.zeroValue9
  t46 := Tryd.underlying74
  a46 := Tryd.isAgg74
  z46 := Tryd.sizeOf74
  v46 := Tryd.zeroValue74
  t51 := Tryd.underlying85
  a51 := Tryd.isAgg85
  z51 := Tryd.sizeOf85
  v51 := Tryd.zeroValue85 }
/-- bits.Len32: "Len32 returns the minimum number of bits required to represent x; the result is 0 for x == 0.": IT RETURNS 'Lib.bitLen x'; the world is as it was. ('h0', 'h1': x is a uint32.) (LAID: no walk: one application.) -/
theorem Tryd.bits_Len32 (x : Int) (w : World) (h0 : 0 ≤ x) (h1 : x ≤ 4294967295) :
    Calls Tryd.prog 88 #[.int .u32 x] w fun e w' => e = .returned (.int .i64 (Lib.bitLen x.toNat)) ∧ w' = w := Any.bits_Len32 Tryd.lays128 x w h0 h1
def Tryd.lays125_ren : Go.Shelf.Ren := ⟨fun | 125 => 78 | 128 => 88 | 129 => 89 | n => n, fun | 46 => 74 | 3 => 3 | 51 => 85 | 53 => 68 | 4 => 4 | 5 => 5 | 9 => 9 | n => n, fun | n => n⟩
theorem Tryd.lays125 : Go.Proofs.Lays.n125 Tryd.prog Tryd.lays125_ren := {
  mixed := by kernel_rfl
  f125 := Tryd.func78.trans (congrArg some (by kernel_rfl))
  f128 := Tryd.func88.trans (congrArg some (by kernel_rfl))
  f129 := Tryd.func89.trans (congrArg some (by kernel_rfl))
  t3 := Tryd.underlying3
  a3 := Tryd.isAgg3
  z3 := Tryd.sizeOf3
  v3 := Tryd.zeroValue3
  t4 := Tryd.underlying4
  a4 := Tryd.isAgg4
  z4 := Tryd.sizeOf4
  v4 := Tryd.zeroValue4
  t5 := Tryd.underlying5
  a5 := Tryd.isAgg5
  z5 := Tryd.sizeOf5
  v5 := Tryd.zeroValue5
  t9 := Tryd.underlying9
  a9 := Tryd.isAgg9
  z9 := Tryd.sizeOf9
  v9 := Tryd.zeroValue9
  t46 := Tryd.underlying74
  a46 := Tryd.isAgg74
  z46 := Tryd.sizeOf74
  v46 := Tryd.zeroValue74
  t51 := Tryd.underlying85
  a51 := Tryd.isAgg85
  z51 := Tryd.sizeOf85
  v51 := Tryd.zeroValue85
  t53 := Tryd.underlying68
  a53 := Tryd.isAgg68
  z53 := Tryd.sizeOf68
  v53 := Tryd.zeroValue68 }
/-- bits.Len: "Len returns the minimum number of bits required to represent x; the result is 0 for x == 0.": IT RETURNS 'Lib.bitLen x'; the world is as it was. (A uint has 64 bits in the model.) ITS CALLEE bits.Len64 IS MET BY ITS OWN CONTRACT OFF THE SHELF (lay that first). (LAID: no walk: one application.) -/
theorem Tryd.bits_Len (x : Int) (w : World) (h0 : 0 ≤ x) (h1 : x ≤ 18446744073709551615) :
    Calls Tryd.prog 78 #[.int .u64 x] w fun e w' => e = .returned (.int .i64 (Lib.bitLen x.toNat)) ∧ w' = w := Any.bits_Len Tryd.lays125 x w h0 h1
def Tryd.lays129_ren : Go.Shelf.Ren := ⟨fun | 129 => 89 | n => n, fun | 53 => 68 | 3 => 3 | 4 => 4 | 46 => 74 | 5 => 5 | 9 => 9 | n => n, fun | n => n⟩
theorem Tryd.lays129 : Go.Proofs.Lays.n129 Tryd.prog Tryd.lays129_ren := {
  mixed := by kernel_rfl
  f129 := Tryd.func89.trans (congrArg some (by kernel_rfl))
  t3 := Tryd.underlying3
  a3 := Tryd.isAgg3
  z3 := Tryd.sizeOf3
  v3 := Tryd.zeroValue3
  t4 := Tryd.underlying4
  a4 := Tryd.isAgg4
  z4 := Tryd.sizeOf4
  v4 := Tryd.zeroValue4
  t5 := Tryd.underlying5
  a5 := Tryd.isAgg5
  z5 := Tryd.sizeOf5
  v5 := Tryd.zeroValue5
  t9 := Tryd.underlying9
  a9 := Tryd.isAgg9
  z9 := Tryd.sizeOf9
  v9 := Tryd.zeroValue9
  t46 := Tryd.underlying74
  a46 := Tryd.isAgg74
  z46 := Tryd.sizeOf74
  v46 := Tryd.zeroValue74
  t53 := Tryd.underlying68
  a53 := Tryd.isAgg68
  z53 := Tryd.sizeOf68
  v53 := Tryd.zeroValue68 }
/-- bits.Len64: "Len64 returns the minimum number of bits required to represent x; the result is 0 for x == 0.": IT RETURNS 'Lib.bitLen x'; the world is as it was. ('h0', 'h1': x is a uint64.) (LAID: no walk: one application.) -/
theorem Tryd.bits_Len64 (x : Int) (w : World) (h0 : 0 ≤ x) (h1 : x ≤ 18446744073709551615) :
    Calls Tryd.prog 89 #[.int .u64 x] w fun e w' => e = .returned (.int .i64 (Lib.bitLen x.toNat)) ∧ w' = w := Any.bits_Len64 Tryd.lays129 x w h0 h1
def Tryd.lays189_ren : Go.Shelf.Ren := ⟨fun | 189 => 65 | 125 => 78 | 257 => 77 | 128 => 88 | 129 => 89 | 294 => 79 | 295 => 80 | 296 => 81 | 297 => 82 | 298 => 83 | 299 => 84 | 216 => 85 | 300 => 86 | 301 => 87 | 328 => 90 | 329 => 91 | 330 => 92 | 331 => 93 | 332 => 94 | 215 => 95 | 343 => 96 | n => n, fun | 28 => 31 | 3 => 3 | 46 => 74 | 0 => 0 | 51 => 85 | 53 => 68 | 4 => 4 | 183 => 78 | 182 => 77 | 131 => 82 | 5 => 5 | 9 => 9 | 218 => 86 | 222 => 90 | 228 => 92 | 229 => 93 | n => n, fun | n => n⟩
theorem Tryd.lays189 : Go.Proofs.Lays.n189 Tryd.prog Tryd.lays189_ren := {
  mixed := by kernel_rfl
  f125 := Tryd.func78.trans (congrArg some (by kernel_rfl))
  f128 := Tryd.func88.trans (congrArg some (by kernel_rfl))
  f129 := Tryd.func89.trans (congrArg some (by kernel_rfl))
  f189 := Tryd.func65.trans (congrArg some (by kernel_rfl))
  f215 := Tryd.func95.trans (congrArg some (by kernel_rfl))
  f216 := Tryd.func85.trans (congrArg some (by kernel_rfl))
  f257 := Tryd.func77.trans (congrArg some (by kernel_rfl))
  f294 := Tryd.func79.trans (congrArg some (by kernel_rfl))
  f295 := Tryd.func80.trans (congrArg some (by kernel_rfl))
  f296 := Tryd.func81.trans (congrArg some (by kernel_rfl))
  f297 := Tryd.func82.trans (congrArg some (by kernel_rfl))
  f298 := Tryd.func83.trans (congrArg some (by kernel_rfl))
  f299 := Tryd.func84.trans (congrArg some (by kernel_rfl))
  f300 := Tryd.func86.trans (congrArg some (by kernel_rfl))
  f301 := Tryd.func87.trans (congrArg some (by kernel_rfl))
  f328 := Tryd.func90.trans (congrArg some (by kernel_rfl))
  f329 := Tryd.func91.trans (congrArg some (by kernel_rfl))
  f330 := Tryd.func92.trans (congrArg some (by kernel_rfl))
  f331 := Tryd.func93.trans (congrArg some (by kernel_rfl))
  f332 := Tryd.func94.trans (congrArg some (by kernel_rfl))
  f343 := Tryd.func96.trans (congrArg some (by kernel_rfl))
  t0 := Tryd.underlying0
  a0 := Tryd.isAgg0
  z0 := Tryd.sizeOf0
  v0 := Tryd.zeroValue0
  t3 := Tryd.underlying3
  a3 := Tryd.isAgg3
  z3 := Tryd.sizeOf3
  v3 := Tryd.zeroValue3
  t4 := Tryd.underlying4
  a4 := Tryd.isAgg4
  z4 := Tryd.sizeOf4
  v4 := Tryd.zeroValue4
  t5 := Tryd.underlying5
  a5 := Tryd.isAgg5
  z5 := Tryd.sizeOf5
  v5 := Tryd.zeroValue5
  t9 := Tryd.underlying9
  a9 := Tryd.isAgg9
  z9 := Tryd.sizeOf9
  v9 := Tryd.zeroValue9
  t28 := Tryd.underlying31
  a28 := Tryd.isAgg31
  z28 := Tryd.sizeOf31
  v28 := Tryd.zeroValue31
  t46 := Tryd.underlying74
  a46 := Tryd.isAgg74
  z46 := Tryd.sizeOf74
  v46 := Tryd.zeroValue74
  t51 := Tryd.underlying85
  a51 := Tryd.isAgg85
  z51 := Tryd.sizeOf85
  v51 := Tryd.zeroValue85
  t53 := Tryd.underlying68
  a53 := Tryd.isAgg68
  z53 := Tryd.sizeOf68
  v53 := Tryd.zeroValue68
  t131 := Tryd.underlying82
  a131 := Tryd.isAgg82
  z131 := Tryd.sizeOf82
  v131 := Tryd.zeroValue82
  t182 := Tryd.underlying77
  a182 := Tryd.isAgg77
  z182 := Tryd.sizeOf77
  v182 := Tryd.zeroValue77
  t183 := Tryd.underlying78
  a183 := Tryd.isAgg78
  z183 := Tryd.sizeOf78
  v183 := Tryd.zeroValue78
  t218 := Tryd.underlying86
  a218 := Tryd.isAgg86
  z218 := Tryd.sizeOf86
  v218 := Tryd.zeroValue86
  t222 := Tryd.underlying90
  a222 := Tryd.isAgg90
  z222 := Tryd.sizeOf90
  v222 := Tryd.zeroValue90
  t228 := Tryd.underlying92
  a228 := Tryd.isAgg92
  z228 := Tryd.sizeOf92
  v228 := Tryd.zeroValue92
  t229 := Tryd.underlying93
  a229 := Tryd.isAgg93
  z229 := Tryd.sizeOf93
  v229 := Tryd.zeroValue93 }
open Go.Sort Go.RowKit in
theorem Tryd.slices_Sort_int (blk off cap : Nat) (zs : List Int) (w : World) (hH : Holds (Value.int .i64) w blk off zs.toArray) (hblk : blk < w.heap.size) (hsz : zs.length < 4611686018427387904) :
    Calls Tryd.prog 65 #[.slice (some ⟨blk, off, none⟩) zs.length cap] w fun e w' =>
      e = .returned (.tuple #[]) ∧ ∃ n os, w' = grow (putRow (Value.int .i64) (Sort.ahead w n) blk off (zs.mergeSort fun x y => decide (x ≤ y)).toArray) os := Any.slices_Sort_int Tryd.lays189 blk off cap zs w hH hblk hsz
end Go.Proofs

/- The walk of arith.Divisors. -/
namespace Go.Proofs.YteamlpflgfmieaaDoor
open Go.RowKit HP

theorem addr_add (g k : Nat) : (⟨g, 0, none⟩ : Addr).add k = ⟨g, k, none⟩ := by
  simp only [Addr.add]
  split
  · next h => simp_all
  · simp
/-- an append leaves the old row's own cells as they were -/
theorem run_append_keep {P : Program} (w : World) (base : Nat) (t ty e : TypeId) (i : TypeInfo) (z : Value) (bytes : Nat) (ht : P.underlying t = some (.slice e)) (hi : P.info? e = some i) (hz : i.zero = some z)
    (hsize : i.size = 1) (hby : i.bytes = bytes) (hzs : z.cells.size = 1)
    (v : Value) (n : Nat) (xs : List Value) (hown : w.ownsRow base e 1 v n xs)
    (a : Addr) (m c : Nat) (news : List Value) (hl : news.length = m * 1) (hnews : ∀ j u, news[j]? = some u → w.cell? (a.add j) = some u) (h1 : ∀ u ∈ news, u.oneCell' = true)
    (h63 : n + m ≤ maxLen) (hbytes : (n + m) * bytes ≤ 140737488355328) (hbase : base ≤ w.heap.size) :
    ∃ v' w', (Builtin.append_ #[t, t] ty #[v, .slice (some a) m c]).run P w = .ok v' w' ∧ w'.ownsRow base e 1 v' (n + m) (xs ++ news) ∧ w.grownBy w' v.ownBlock ∧ (v'.ownBlock = v.ownBlock ∨ v'.ownBlock = some w.heap.size) ∧
      (∀ g k u, v.ownBlock = some g → xs[k]? = some u → w'.cell? ⟨g, k, none⟩ = some u) := by
  obtain ⟨v', w', hr, h2, h3, h4, h5⟩ := run_append_own_at (P := P) w base t ty e i z 1 bytes ht hi hz hsize hby hzs (by omega) v n xs hown a m c news hl hnews h1 h63 hbytes hbase
  refine ⟨v', w', hr, h2, h3, h5, fun g k u hg hk => ?_⟩
  have hc0 := hown.cells hg k u hk
  have hc : w.cell? ⟨g, k, none⟩ = some u := by rw [← addr_add]; exact hc0
  have hglt := (hown.lt g hg).2
  rcases h5 with h5 | h5
  · have hk2 : (xs ++ news)[k]? = some u := by
      have hkl : k < xs.length := (List.getElem?_eq_some_iff.1 hk).1
      rw [List.getElem?_append_left hkl]; exact hk
    have := h2.cells (h5.trans hg) k u hk2
    rw [← addr_add]; exact this
  · rcases hown.2 with ⟨rfl, h0⟩ | ⟨g', cap, cur, rfl, hbg, hgg, hnc, hcm, hcs, htake⟩
    · cases hg
    · obtain rfl : g' = g := Option.some.inj hg
      have hlx : xs.length = n * i.size := by rw [hown.1, hsize]
      have hln : news.length = m * i.size := by rw [hl, hsize]
      by_cases hroom : n + m ≤ cap
      · have hfit : n * i.size + news.length ≤ cur.size := by rw [hl, hcs, hsize]; omega
        have hr2 := run_append_room (P := P) w t ty e i ht hi g' n cap cur hgg a m c news hln hnews h1 hroom hfit
        rw [hr] at hr2
        injection hr2 with e1 e2
        subst e1
        have : g' = w.heap.size := Option.some.inj h5
        omega
      · have holds : ∀ j u, xs[j]? = some u → w.cell? ((⟨g', 0, none⟩ : Addr).add j) = some u := hown.cells (g := g') rfl
        subst hby
        have hr2 := run_append_grow (P := P) w t ty e i z ht hi hz ⟨g', 0, none⟩ n cap xs hlx holds a m c news hln hnews (by omega) (by simp only [maxLen] at h63; omega) (growslice_fits (by omega) hbytes)
        rw [hr] at hr2
        injection hr2 with e1 e2
        subst e2
        rw [World.cell?_alloc_past _ _ _ (show g' < w.drew.heap.size from hglt)]
        exact hc
theorem wpList_append_keep {P : Program} (w : World) {ops : Array Oper} {rest : List Oper} {o : Oper} {a : Act} {Q : Exit → Act → World → Prop} (hgd : o.guard = none) (s x : Operand) (t : TypeId)
    (ho : o.op = .call { callee := .builtin .append, args := #[s, x], argTypes := #[t, t] })
    (base : Nat) (e : TypeId) (i : TypeInfo) (z : Value) (bytes : Nat) (ht : P.underlying t = some (.slice e)) (hi : P.info? e = some i) (hz : i.zero = some z)
    (hsize : i.size = 1) (hby : i.bytes = bytes) (hzs : z.cells.size = 1)
    (v : Value) (n : Nat) (xs : List Value) (hs : a.eval s = v) (hown : w.ownsRow base e 1 v n xs)
    (ad : Addr) (m c : Nat) (news : List Value) (hx : a.eval x = .slice (some ad) m c) (hl : news.length = m * 1) (hnews : ∀ j u, news[j]? = some u → w.cell? (ad.add j) = some u) (h1 : ∀ u ∈ news, u.oneCell' = true)
    (h63 : n + m ≤ maxLen) (hbytes : (n + m) * bytes ≤ 140737488355328) (hbase : base ≤ w.heap.size)
    (h : ∀ v' w', w'.ownsRow base e 1 v' (n + m) (xs ++ news) → w.grownBy w' v.ownBlock → (v'.ownBlock = v.ownBlock ∨ v'.ownBlock = some w.heap.size) → (∀ g k u, v.ownBlock = some g → xs[k]? = some u → w'.cell? ⟨g, k, none⟩ = some u) → wpList P ops Q rest (a.put o.dst v') w') :
    wpList P ops Q (o :: rest) a w := by
  refine wpList_plain hgd fun K hK => ?_
  obtain ⟨v', w', hr, h2, h3, h5, h4⟩ := run_append_keep (P := P) w base t o.type e i z bytes ht hi hz hsize hby hzs v n xs hown ad m c news hl hnews h1 h63 hbytes hbase
  unfold Oper.wp execOp
  simp only [ho, resolve, invoke, builtin, Sem.run_bind, Sem.run_pure, Result.andThen_ok, List.map_toArray, List.map_cons, List.map_nil, hs, hx, hr]
  exact hK _ _ (h v' w' h2 h3 h5 h4)

/-- the cells of a row that is only read -/
def RowAt (w : World) (g : Nat) (L : List Nat) : Prop := g < w.heap.size ∧ ∀ (k x : Nat), L[k]? = some x → w.cell? ⟨g, k, none⟩ = some (.int .i64 x)
theorem rowAt_append {wr w1 : World} {g b : Nat} {L : List Nat} {cur : List Int} {v v' : Value} {o : Obj} (hgb : g ≠ b) (h : RowAt wr g L) (hpre : ∀ (k x : Nat), L[k]? = some x → cur[k]? = some (x : Int)) (hg : (wr.alloc o).grownBy w1 v.ownBlock)
    (hkeep : ∀ g k u, v.ownBlock = some g → (intCells cur)[k]? = some u → w1.cell? ⟨g, k, none⟩ = some u) : RowAt (w1.setCell ⟨b, 0, none⟩ v') g L := by
  refine ⟨?_, fun k x hk => ?_⟩
  · have := hg.size
    have h2 : (w1.setCell ⟨b, 0, none⟩ v').heap.size = w1.heap.size := by simp [World.setCell]
    rw [h2]
    simp at this
    have := h.1
    omega
  · rw [World.cell?_setCell_other _ _ _ _ (fun e => hgb (congrArg Addr.block e).symm)]
    by_cases hv : v.ownBlock = some g
    · exact hkeep g k _ hv (intCells_at (hpre k x hk))
    · have h1 := World.cell?_of_block (a := ⟨g, k, none⟩) (hg.block g (by have := h.1; simp; omega) (fun e => hv e.symm))
      rw [h1, World.cell?_alloc_past _ _ _ h.1]
      exact h.2 k x hk

theorem castL_append (l m : List Nat) : castL (l ++ m) = castL l ++ castL m := List.map_append
theorem castL_len (l : List Nat) : (castL l).length = l.length := List.length_map _
theorem castL_at {l : List Nat} {k x : Nat} (h : l[k]? = some x) : (castL l)[k]? = some (x : Int) := by unfold castL; rw [List.getElem?_map, h]; rfl
/-- the variable of Divisors -/
def DvW (w : World) (b : Nat) (L : List Nat) (wr : World) : Prop := VarW w b 3 1 (castL L).length (intCells (castL L)) wr
theorem dvE_prefix {p : Nat} {L : List Nat} {k x : Nat} (h : L[k]? = some x) : ∀ j, (dvE p L j)[k]? = some x
  | 0 => h
  | j + 1 => by
    have h1 := dvE_prefix (p := p) h j
    rw [dvE, List.getElem?_append_left (List.getElem?_eq_some_iff.1 h1).1]
    exact h1

set_option maxHeartbeats 2000000 in
set_option maxRecDepth 100000 in
theorem divisors1_any (p e : Nat) (L : List Nat) (b : Nat) (w wr : World) (hp : 2 ≤ p) (hp2 : p ≤ 2147483647) (hpe : p ^ e ≤ 2147483647) (he : e ≤ 2147483647) (hL0 : 0 < L.length) (hL : L.length * (e + 1) ≤ 2147483647) (hLb : ∀ x ∈ L, x * p ^ e ≤ 2147483647) (hW : DvW w b L wr) :
    Calls Tryd.prog 64 #[.int .i64 p, .int .i64 e, .pointer (some ⟨b, 0, none⟩)] wr fun x' w' => x' = .returned (.tuple #[]) ∧ DvW w b (dvE p L e) w' := by
  obtain ⟨i0, hi, hz0, hz1, hz2⟩ := info_parts infoInt
  have hpj : ∀ j, j ≤ e → p ^ j ≤ 2147483647 := fun j hj => Nat.le_trans (Nat.pow_le_pow_right (by omega) hj) hpe
  have HPJ := Lib.hid hpj
  have HLB := Lib.hid hLb
  have HW := Lib.hid hW
  obtain ⟨v, hc, hf, hown, _, hB, hb, hbel⟩ := hW
  have hlen : (castL L).length = L.length := castL_len L
  obtain ⟨g0, cap0, hv⟩ := ownsRow_form hown (by omega)
  subst hv
  clear hpj hLb hbel hown hpe
  generalize castL L = CL at hlen hc
  rw [hlen] at hc
  go_enter Tryd.func64, Tryd.ntmps64
  go_wp2
  have hst : DvW w b (dvE p L 0) wr := HW.out
  have HST := Lib.hid hst
  clear hst hf hb hc HW
  go_loopw [1, 6] (fun y1 y6 wo => ∃ (j m q : Nat), y1 = .int .i64 m ∧ y6 = .int .i64 q ∧ j + m = e ∧ q ≤ 4611686014132420609 ∧ Hid (q = p ^ (j + 1)) ∧ Hid (DvW w b (dvE p L j) wo)) (fun y _ _ => (intOf y).toNat)
  case atStart => exact ⟨0, e, p, rfl, rfl, by omega, by omega, by rw [Hid, Nat.pow_one], HST.out⟩
  case round =>
    obtain ⟨j, m, q, rfl, rfl, hjm, hq, HQ, HD⟩ := hrel
    by_cases hm : m = 0
    · subst hm
      obtain rfl : j = e := by omega
      go_wp2
      go_end0
      exact ⟨rfl, HD.out⟩
    · have hD := HD.out
      have hDl : (dvE p L j).length = L.length * (j + 1) := dvE_len p L j
      have hDl2 : L.length * (j + 1) ≤ L.length * (e + 1) := Nat.mul_le_mul_left _ (by omega)
      have hDl3 : L.length ≤ L.length * (j + 1) := Nat.le_mul_of_pos_right _ (by omega)
      have hqe : q ≤ 2147483647 := by rw [HQ.out]; exact HPJ.out (j + 1) (by omega)
      have hxq : ∀ x ∈ L, x * q ≤ 2147483647 := fun x hx => by
        refine Nat.le_trans (Nat.mul_le_mul_left x ?_) (HLB.out x hx)
        rw [HQ.out]
        exact Nat.pow_le_pow_right (by omega) (by omega)
      have HXQ := Lib.hid hxq
      have hnext : dvE p L j ++ L.map (· * q) = dvE p L (j + 1) := by rw [dvE, HQ.out]
      have hpre : ∀ (k x : Nat), L[k]? = some x → (dvE p L j)[k]? = some x := fun k x h => dvE_prefix h j
      have hql : q * p = p ^ (j + 1 + 1) := by rw [HQ.out, ← Nat.pow_succ]
      have hlj : L.length * (j + 1) + L.length ≤ 2147483647 := by
        have : L.length * (j + 1) + L.length = L.length * (j + 2) := by rw [show j + 2 = (j + 1) + 1 by omega, Nat.mul_add L.length (j + 1) 1, Nat.mul_one]
        rw [this]
        exact Nat.le_trans (Nat.mul_le_mul_left _ (by omega)) hL
      generalize dvE p L j = D at *
      generalize hD' : dvE p L (j + 1) = D' at *
      have HD' := Lib.hid hD'
      have hmd : decide (0 < m) = true := by rw [decide_eq_true_iff]; omega
      obtain ⟨v, hc, hf, hown, hnb, _, hb, hbel⟩ := hD
      rw [castL_len] at hown
      obtain ⟨g, cap, hv⟩ := ownsRow_form hown (by omega)
      subst hv
      have hcap : D.length ≤ cap := by
        rcases hown.2 with ⟨h, _⟩ | ⟨g', cap', cur, h, _, _, h3, _⟩
        · cases h
        · cases h; exact h3
      have hgb : g ≠ b := fun h => hnb (by rw [h]; rfl)
      have hrow : RowAt wr g L := ⟨(hown.lt g rfl).2, fun k x h => (hown.cellAt k (by have := (List.getElem?_eq_some_iff.1 h).1; omega)).trans (intCells_at (castL_at (hpre k x h)))⟩
      have HROW := Lib.hid hrow
      have HNEXT := Lib.hid hnext
      have HPRE := Lib.hid hpre
      have HQL := Lib.hid hql
      have hLcap : L.length ≤ cap := by omega
      have hDm : D.length + L.length ≤ 2147483647 := by omega
      clear hown hbel hrow hnext hpre hql hxq hnb HLB HST HQ hDl hDl2 hlj hD'
      go_wp2
      go_loopw [23] (fun y wi => ∃ (i : Nat), y = .int .i64 i ∧ i ≤ L.length ∧ Hid (DvW w b (D ++ (L.take i).map (· * q)) wi) ∧ Hid (RowAt wi g L)) (fun y _ => L.length - (intOf y).toNat)
      case atStart => exact ⟨0, rfl, by omega, by rw [List.take_zero, List.map_nil, List.append_nil]; exact HD, HROW⟩
      case round =>
        clear hc hf hb
        obtain ⟨i, rfl, hi1, HDi, HRi⟩ := hrel
        by_cases hil : i < L.length
        · obtain ⟨x, hx⟩ : ∃ x, L[i]? = some x := ⟨L[i]'hil, List.getElem?_eq_getElem hil⟩
          have hcell := HRi.out.2 i x hx
          have hxb := HXQ.out x (List.mem_of_getElem? hx)
          have hnx : D ++ (L.take i).map (· * q) ++ [x * q] = D ++ (L.take (i + 1)).map (· * q) := by
            rw [List.take_add_one, hx, List.map_append, List.append_assoc]; rfl
          have hprei : ∀ (k y : Nat), L[k]? = some y → (castL (D ++ (L.take i).map (· * q)))[k]? = some (y : Int) := fun k y h => by
            apply castL_at
            have := HPRE.out k y h
            rw [List.getElem?_append_left (List.getElem?_eq_some_iff.1 this).1]
            exact this
          have hEl : (D ++ (L.take i).map (· * q)).length = D.length + i := by
            rw [List.length_append, List.length_map, List.length_take, Nat.min_eq_left hi1]
          have hD := HDi.out
          generalize D ++ (L.take i).map (· * q) = E at *
          obtain ⟨v, hc, hf, hown, hnb', hB', hb, hbel⟩ := hD
          have hszr := hbel.size
          have hxq : ((x * q : Nat) : Int) = (x : Int) * q := by simp
          have hxq2 : (x : Int) * q ≤ 2147483647 := by rw [← hxq]; exact Int.ofNat_le.2 hxb
          have hxq1 : 0 ≤ (x : Int) * q := by rw [← hxq]; exact Int.natCast_nonneg _
          have HNX := Lib.hid hnx
          have HPI := Lib.hid hprei
          have HBEL := Lib.hid hbel
          have HXX := Lib.hid hxq
          have hlc : (castL E).length = E.length := castL_len E
          clear hnx hprei hbel hx HDi hxq
          go_wp2_with (at_builtin; first
            | refine wpList_append_keep _ rfl _ _ 31 rfl w.heap.size 3 i0 (.int .i64 0) 8 Tryd.underlying31 hi hz0 hz1 hz2 rfl _ _ _ rfl (hown.alloc _) ⟨wr.heap.size, 0, none⟩ 1 1 [.int .i64 ((x : Int) * q)] rfl rfl (cell_one_new _ _ _) (one_one _ _) (by unfold maxLen; omega) (by omega) (by simp; omega) ?_)
          intro v' w1 hown' hgrow hat hkeep
          obtain ⟨k1, k2, k3⟩ := varW_store hB' hb HBEL.out hc hf hnb' hown hown' hgrow hat
          have k4 := rowAt_append (v' := v') hgb HRi.out HPI.out hgrow hkeep
          obtain ⟨g1, cap1, rfl⟩ := ownsRow_form hown' (by omega)
          have K3 := Lib.hid k3
          have K4 := Lib.hid k4
          clear hown' hgrow hown hc hf k3 k4 hkeep hat hnb'
          go_wp2
          go_roundw
          case rel =>
            refine ⟨i + 1, by go_num, by omega, ?_, K4.out⟩
            rw [← HNX.out]
            have e1 : castL (E ++ [x * q]) = castL E ++ [(x : Int) * q] := by rw [castL_append, ← HXX.out]; rfl
            have e2 : intCells (castL E ++ [(x : Int) * q]) = intCells (castL E) ++ [.int .i64 ((x : Int) * q)] := by unfold intCells; rw [List.map_append]; rfl
            show VarW _ _ _ _ _ _ _
            rw [e1, e2, List.length_append, hlc, hEl]
            exact K3.out
          case measure => simp [intOf]; omega
        · obtain rfl : i = L.length := by omega
          have hfin : D ++ (L.take L.length).map (· * q) = D' := by rw [List.take_length]; exact HNEXT.out
          have hDf := HDi.out
          rw [hfin] at hDf
          have HDF := Lib.hid hDf
          have hqp : (q : Int) * p = ((q * p : Nat) : Int) := by simp
          have hqp2 : q * p ≤ 2147483647 * 2147483647 := Nat.mul_le_mul hqe hp2
          have hqp3 : 0 ≤ (q : Int) * p := by rw [hqp]; exact Int.natCast_nonneg _
          have hqp4 : (q : Int) * p ≤ 4611686014132420609 := by rw [hqp]; exact Int.ofNat_le.2 hqp2
          have HQP := Lib.hid hqp
          clear hDf hfin HDi HRi HNEXT HPRE HXQ hqp
          go_wp2
          go_roundw
          case rel => exact ⟨j + 1, m - 1, q * p, by rw [Int.natCast_sub (by omega)]; rfl, by rw [← HQP.out], by omega, by omega, HQL.out, by rw [HD'.out]; exact HDF.out⟩
          case measure => simp [intOf]; omega

theorem enters64 (args : Array Value) (w : World) : (callFunc 64 args).run Tryd.prog w = .ok (.enter 64 args) w := enters_of Tryd.func64 (by kernel_rfl) rfl args w

theorem divisors_no (N : Int) (w : World) (h : N < 1 ∨ 2147483647 < N) :
    Calls Tryd.prog 35 #[.int .i64 N] w fun x w' => x = .returned (.tuple #[.slice none 0 0, .int .i64 2]) ∧ w = w' := by
  go_enter Tryd.func35, Tryd.ntmps35
  go_wp2_with (go_at_call 63; refine (inRange_no N _ h).mono ?_; rintro x w' ⟨rfl, rfl⟩)
  go_ret2
  exact ⟨rfl, rfl⟩
/-- what a round of Divisors may count on -/
theorem div_round {N : Nat} (hN : 0 < N) {l r : List (Nat × Nat)} {p e : Nat} (h : facs N = l ++ (p, e) :: r) :
    2 ≤ p ∧ p ≤ N ∧ p ^ e ≤ N ∧ e ≤ N ∧ 0 < (dvF [1] l).length ∧ (dvF [1] l).length * (e + 1) ≤ N ∧ (∀ x ∈ dvF [1] l, x * p ^ e ≤ N) ∧ dvF [1] (l ++ [(p, e)]) = dvE p (dvF [1] l) e := by
  have hm : (p, e) ∈ facs N := by rw [h]; simp
  obtain ⟨x1, x2, x3, x4, x5, x6, _⟩ := facs_bounds hN hm
  have h' : facs N = (l ++ [(p, e)]) ++ r := by rw [h, List.append_assoc]; rfl
  have e1 : dvF [1] (l ++ [(p, e)]) = dvE p (dvF [1] l) e := by rw [dvF_append]; rfl
  have hl1 := dvF_length hN h
  have hl2 := dvF_length hN h'
  rw [e1, dvE_len] at hl2
  refine ⟨x2, x4, x6, x5, hl1.2, hl2.1, fun x hx => ?_, e1⟩
  have h1 := dvF_pre hN h x hx
  have h2 : x * p ^ e ∣ N := by
    have h3 : natL l * (p ^ e * natL r) = N := by
      rw [← natL_facs N hN, h, natL_append]; rfl
    rw [← h3, ← Nat.mul_assoc]
    exact Nat.dvd_trans (Nat.mul_dvd_mul_right h1 _) ⟨natL r, rfl⟩
  exact Nat.le_of_dvd hN h2

theorem dvW_start (w : World) (t : TypeId) : DvW w (w.heap.size + 1) [1] ((w.alloc (.cells #[.int .i64 1] 3)).alloc (.cells #[.slice (some ⟨w.heap.size, 0, none⟩) 1 1] t)) := by
  refine ⟨.slice (some ⟨w.heap.size, 0, none⟩) 1 1, ?_, ?_, ⟨rfl, .inr ⟨w.heap.size, 1, #[.int .i64 1], rfl, Nat.le_refl _, ?_, Nat.le_refl 1, by decide, rfl, rfl⟩⟩, ?_, by omega, by simp, ((Below.refl _ _).alloc (Nat.le_refl _) _).alloc (by simp) _⟩
  · rw [World.cell?_alloc_at _ _ _ _ (by simp)]; rfl
  · exact World.frozen?_alloc_at _ _ _ _ (by simp)
  · rw [heap_alloc_old _ _ (by simp), heap_alloc_new]
  · simp [Value.ownBlock]

set_option maxHeartbeats 1000000 in
set_option maxRecDepth 100000 in
theorem divisors_any (N : Nat) (w : World) (hN0 : 1 ≤ N) (hN : N ≤ 2147483647) :
    Calls Tryd.prog 35 #[.int .i64 N] w fun x w' => ∃ v, x = .returned (.tuple #[v, .int .i64 0]) ∧ IntsAt w.heap.size w' v (intL (dvs N)) ∧ Below w.heap.size w w' := by
  have hmf : ∀ (fn : Fn) (first cap : Array Value) (w : World), (Instr.makeFunc fn first cap).run Tryd.prog w = .ok (.func fn first cap) w := fun _ _ _ _ => rfl
  go_enter Tryd.func35, Tryd.ntmps35
  go_wp2_with (go_at_call 63; refine (inRange_yes N _ (by omega) (by omega)).mono ?_; rintro x w' ⟨rfl, rfl⟩)
  refine (factors_any 64 _ enters64 N _ (by omega) (by omega) (fun l wr => Hid (DvW w (w.heap.size + 1) (dvF [1] l) wr)) ?_ ?_).mono ?_
  · exact dvW_start w _
  · intro l p e r wr hl hI
    obtain ⟨x1, x2, x3, x4, x5, x6, x7, x8⟩ := div_round (by omega) hl
    exact (divisors1_any p e (dvF [1] l) _ w wr x1 (by omega) (by omega) (by omega) x5 (by omega) (fun x hx => Nat.le_trans (x7 x hx) hN) hI.out).mono fun x w' ⟨hx, hW⟩ => ⟨hx, by rw [x8]; exact hW⟩
  · rintro x w1 ⟨rfl, hI⟩
    obtain ⟨v, hc, hf, hown, hnb, hB, hb, hbel⟩ := hI.out
    obtain ⟨f1, f2⟩ := dvF_facs (N := N) (by omega)
    have hsort := sort_dvs (N := N) (by omega) f1 f2
    have hlen := dvF_length (N := N) (by omega) (l := facs N) (r := []) (by simp)
    have hcl := castL_len (dvF [1] (facs N))
    generalize dvF [1] (facs N) = D at *
    generalize castL D = zs at *
    obtain ⟨g, cap, rfl⟩ := ownsRow_form hown (by omega)
    rcases hown.2 with ⟨h, _⟩ | ⟨g', cap', cur, hv, hg1, hg2, hg3, hg4, hg5, hg6⟩
    · cases h
    · obtain ⟨rfl, rfl⟩ : g = g' ∧ cap = cap' := by
        simp at hv; exact hv
      have hgs := (Array.getElem?_eq_some_iff.1 hg2).1
      have hH := holds_of_blockI (ss := zs) hg2 (by rw [Nat.mul_one] at hg6; exact hg6)
      have HOWN := Lib.hid (fun n os => ownsRow_sortedI (w := w1) (base := w.heap.size) (n := n) (os := os) (ss := zs) (ts := zs.mergeSort fun x y => decide (x ≤ y)) (List.length_mergeSort _) hg1 hg2 hg3 hg4 hg5)
      have hgr : ∀ n os, w1.grownBy (Go.Sort.grow (Go.Sort.putRow (Value.int .i64) (Go.Sort.ahead w1 n) g 0 (zs.mergeSort fun x y => decide (x ≤ y)).toArray) os) (some g) := fun n os => grownBy_sortedI _
      have HGR := Lib.hid hgr
      have HH := Lib.hid hH
      have HSORT := Lib.hid hsort
      have HBEL := Lib.hid hbel
      have hsz := hbel.size
      have hgb : g ≠ w.heap.size + 1 := fun h => hnb (by rw [h]; rfl)
      have hzl : zs.length ≤ 2147483647 := by omega
      have hts : (zs.mergeSort fun x y => decide (x ≤ y)).length = zs.length := List.length_mergeSort _
      clear hown hv hg6 hgr hH hsort hbel hI f1 f2 hg2 hcl
      go_wp2_with fail
      refine (Tryd.slices_Sort_int g 0 cap zs _ HH.out hgs (by omega)).mono ?_
      rintro x w2 ⟨rfl, n, os, hw2⟩
      have ho := HOWN.out n os
      have hgr := HGR.out n os
      rw [← hw2] at ho hgr
      rw [HSORT.out] at ho hts
      have hc2 : w2.cell? ⟨w.heap.size + 1, 0, none⟩ = some (.slice (some ⟨g, 0, none⟩) zs.length cap) := by
        rw [World.cell?_of_block (hgr.block (w.heap.size + 1) hb (fun e => hgb (Option.some.inj e).symm))]
        exact hc
      have hbel2 : Below w.heap.size w w2 := HBEL.out.grown hgr hsz (fun k hk => by have := Option.some.inj hk; omega)
      have hres : IntsAt w.heap.size w2 (.slice (some ⟨g, 0, none⟩) zs.length cap) (intL (dvs N)) := by
        refine intsAt_of_owns (t := 3) ?_
        have e : (intL (dvs N)).length = zs.length := hts
        rw [e]
        exact ho
      have HRES := Lib.hid hres
      have HB2 := Lib.hid hbel2
      clear hres hbel2 ho hgr hw2 hts hc
      go_wp2
      go_ret2
      exact ⟨_, rfl, HRES.out, HB2.out⟩
end Go.Proofs.YteamlpflgfmieaaDoor

/- States in letters: the contracts of arith told anew. -/
namespace Go.Proofs.YteamlpflgfmieaaDoor
open Go Go.RowKit Go.VG HP
noncomputable def CX : Ctx := ⟨Tryd.prog, TabW, tysX⟩
def ix (n : Int) : Leaf := .x (.int .i64 n)
def avx (v : Value) : AV := .v (.c (.x v))
theorem argsX {ρ : Nat → Value} {w : World} : ∀ {vals vs : List Value}, ArgsR (AV.at ρ w) (vals.map avx) vs → vs = vals
  | [], [], _ => rfl
  | _ :: _, _ :: _, ⟨h, k⟩ => by rw [show _ = _ from h.2, argsX k]
  | [], _ :: _, h => h.elim
  | _ :: _, [], h => h.elim
theorem drew_below (w : World) (m : Nat) : Below w.heap.size w (w.drewN m) := ⟨rfl, rfl, rfl, Nat.le_refl _, fun _ _ => rfl⟩
theorem callOk {f : FuncId} {fn : Func} (hf : Tryd.prog.funcs[f]? = some fn) (h1 : (fn.name == "runtime.NumGoroutine") = false) (h2 : fn.body.isNone = false) : CallOk CX.P f := ⟨fn, hf, h1, h2⟩
/-- a slice of memory that is written no more -/
theorem sl_of {O : Nat → Prop} {B g cap k n : Nat} {w w'' : World} {α : Type} {mk : α → Nat → Leaf} {Z : Nat → α} (hO : ∀ i, O i → i < B) (hg : B ≤ g) (hlt : g < w.heap.size) (hn : n ≤ cap) (hx : Ext O w w'')
    (hc : ∀ i j, i < n → j < k → ∃ u, w.cell? ⟨g, i * k + j, none⟩ = some u ∧ u.oneCell' = true ∧ ∀ ρ w, (mk (Z i) j).at ρ w u) (ρ' : Nat → Value) : (Leaf.sl k α mk Z n).at ρ' w'' (.slice (some ⟨g, 0, none⟩) n cap) := by
  refine ⟨_, cap, rfl, hn, fun h => (by cases h), fun g' off sp h => ?_⟩
  cases h
  refine ⟨rfl, fun i j hi hj => ?_⟩
  obtain ⟨u, h1, h2, h3⟩ := hc i j hi hj
  refine ⟨u, ?_, h2, fun r => h3 r w''⟩
  rw [Nat.zero_add]
  have := hx.keep g hlt fun h => by have := hO g h; omega
  unfold World.cell? at h1 ⊢
  rw [this]
  exact h1
theorem sl_nil {k : Nat} {α : Type} {mk : α → Nat → Leaf} {Z : Nat → α} {w : World} (ρ' : Nat → Value) : (Leaf.sl k α mk Z 0).at ρ' w (.slice none 0 0) := ⟨none, 0, rfl, Nat.le_refl _, fun _ => rfl, fun _ _ _ h => by cases h⟩
theorem kron_sp (a n : Int) (ha1 : -9223372036854775808 ≤ a) (ha2 : a ≤ 9223372036854775807) (hn1 : -9223372036854775808 ≤ n) (hn2 : n ≤ 9223372036854775807) : Sp CX 46 [int .i64 a, int .i64 n] (int .i64 (kro a n)) :=
  .of_val (vs0 := [.int .i64 a, .int .i64 n]) (callOk Tryd.func46 (by kernel_rfl) (by kernel_rfl)) rfl (fun _ _ _ h => argsX h) (fun _ _ => ⟨rfl, rfl⟩) fun w hG => (kronecker_any a n w ha1 ha2 hn1 hn2 hG).mono fun _ _ ⟨h, e⟩ => ⟨h, e ▸ Below.refl _ _⟩
theorem gcd_sp (a b : Int) (ha1 : -9223372036854775808 ≤ a) (ha2 : a ≤ 9223372036854775807) (hb1 : -9223372036854775808 ≤ b) (hb2 : b ≤ 9223372036854775807) : Sp CX 48 [int .i64 a, int .i64 b] (int .i64 (gcdW a b)) :=
  .of_val (vs0 := [.int .i64 a, .int .i64 b]) (callOk Tryd.func48 (by kernel_rfl) (by kernel_rfl)) rfl (fun _ _ _ h => argsX h) (fun _ _ => ⟨rfl, rfl⟩) fun w _ => (gcd_any a b w ha1 ha2 hb1 hb2).mono fun _ _ ⟨h, m, e⟩ => ⟨h, e ▸ drew_below w m⟩
theorem psi_sp (N : Nat) (hN0 : 1 ≤ N) (hN : N ≤ 2147483647) : Sp CX 31 [int .i64 N] (.tup [.c (ix (psi N)), .c (ix 0)]) :=
  .of_val (vs0 := [.int .i64 N]) (v := .tuple #[.int .i64 (psi N), .int .i64 0]) (callOk Tryd.func31 (by kernel_rfl) (by kernel_rfl)) rfl (fun _ _ _ h => argsX h) (fun _ _ => ⟨_, rfl, ⟨rfl, rfl⟩, ⟨rfl, rfl⟩, trivial⟩) fun w _ => psi_any N w hN0 hN
theorem fund_sp (d : Int) : Sp CX 32 [int .i64 d] (.tup [.c (ix (fundOut d).1), .c (ix (fundOut d).2.1), .c (ix (fundOut d).2.2)]) :=
  .of_val (vs0 := [.int .i64 d]) (v := .tuple #[.int .i64 (fundOut d).1, .int .i64 (fundOut d).2.1, .int .i64 (fundOut d).2.2]) (callOk Tryd.func32 (by kernel_rfl) (by kernel_rfl)) rfl (fun _ _ _ h => argsX h) (fun _ _ => ⟨_, rfl, ⟨rfl, rfl⟩, ⟨rfl, rfl⟩, ⟨rfl, rfl⟩, trivial⟩) fun w _ => fund_any d w
def ppL (z : Nat × Nat) (j : Nat) : Leaf := if j = 0 then ix z.1 else ix z.2
set_option maxHeartbeats 1000000 in
set_option maxRecDepth 100000 in
theorem factor_own (N : Nat) (w : World) (hN0 : 1 ≤ N) (hN : N ≤ 2147483647) :
    Calls Tryd.prog 45 #[.int .i64 N] w fun x w' => ∃ v, x = .returned (.tuple #[v, .int .i64 0]) ∧ w'.ownsRow w.heap.size 60 2 v (facs N).length (ppCells (facs N)) ∧ Below w.heap.size w w' := by
  have hmf : ∀ (fn : Fn) (first cap : Array Value) (w : World), (Instr.makeFunc fn first cap).run Tryd.prog w = .ok (.func fn first cap) w := fun _ _ _ _ => rfl
  go_enter Tryd.func45, Tryd.ntmps45
  go_wp2_with (go_at_call 63; refine (inRange_yes N _ (by omega) (by omega)).mono ?_; rintro x w' ⟨rfl, rfl⟩)
  refine (factors_any 69 _ enters69 N _ (by omega) (by omega) (fun l wr => Hid (VarW w w.heap.size 60 2 l.length (ppCells l) wr)) ?_ ?_).mono ?_
  · exact varW_start w _ _ 2
  · intro l p e r wr hl hI
    have hlen := prefix_len (by omega) hl
    exact (factor1_any p e l w.heap.size w wr (by omega) hI.out).mono fun x w' ⟨hx, hW⟩ => ⟨hx, hW⟩
  · rintro x w' ⟨rfl, hI⟩
    obtain ⟨v, hc, hf, hown, hnb, hB, hb, hbel⟩ := hI.out
    have HPP := Lib.hid hown
    have HBEL := Lib.hid hbel
    clear hI hbel hnb
    have hpp2 := ppAt_of_owns hown
    clear hown
    clear hpp2
    go_wp2
    go_ret2
    exact ⟨v, rfl, HPP.out, HBEL.out⟩
theorem factor_sp (N : Nat) (Z : Nat → Nat × Nat) (len : Nat) (hZ : ∀ i p e, (facs N)[i]? = some (p, e) → Z i = (p, e)) (hlen : len = (facs N).length) (hN0 : 1 ≤ N) (hN : N ≤ 2147483647) : Sp CX 45 [int .i64 N] (.tup [.c (.sl 2 (Nat × Nat) ppL Z len), .c (ix 0)]) := by
  refine ⟨callOk Tryd.func45 (by kernel_rfl) (by kernel_rfl), rfl, fun O w vs hO _ ha => ?_⟩
  have e := argsX (vals := [.int .i64 N]) (ha (fun _ => undef) w (Ext.refl _ _))
  subst e
  refine (factor_own N w hN0 hN).mono ?_
  rintro x w' ⟨v, rfl, hown, hb⟩
  refine ⟨_, rfl, hb, fun ρ' w'' hx => ⟨_, rfl, ?_, ⟨rfl, rfl⟩, trivial⟩⟩
  have hl : ∀ i, i < (facs N).length → ∃ p e, (facs N)[i]? = some (p, e) := fun i hi => ⟨_, _, List.getElem?_eq_getElem hi⟩
  have hc := hown
  rw [hlen]
  rcases hown.2 with ⟨rfl, h0⟩ | ⟨g, cap, cur, rfl, hg, hbk, h1, h2, h3, h4⟩
  · rw [h0]
    exact ⟨rfl, sl_nil ρ'⟩
  · refine ⟨rfl, sl_of (fun i hi => (hO i hi).1) hg (Array.getElem?_eq_some_iff.1 hbk).1 h1 hx (fun i j hi hj => ?_) ρ'⟩
    obtain ⟨p, e, hpe⟩ := hl i hi
    obtain ⟨c1, c2⟩ := ppCells_at (facs N) i p e hpe
    have hz := hZ i p e hpe
    rcases (show j = 0 ∨ j = 1 by omega) with rfl | rfl
    · exact ⟨.int .i64 p, (hc.cellAt (i * 2) (by omega)).trans c1, rfl, fun r w => by simp only [hz]; exact rfl⟩
    · exact ⟨.int .i64 e, (hc.cellAt (i * 2 + 1) (by omega)).trans c2, rfl, fun r w => by simp only [hz]; exact rfl⟩
/-- a list's members, as a function -/
theorem zOf {α : Type} (l : List α) (d : α) : ∃ (Z : Nat → α) (len : Nat), (∀ i x, l[i]? = some x → Z i = x) ∧ len = l.length := ⟨fun i => l.getD i d, l.length, fun i x h => by simp [List.getD_eq_getElem?_getD, h], rfl⟩
theorem divisors_sp (N : Nat) (Z : Nat → Nat) (len : Nat) (hZ : ∀ i x, (dvs N)[i]? = some x → Z i = x) (hl : len = (dvs N).length) (hN0 : 1 ≤ N) (hN : N ≤ 2147483647) : Sp CX 35 [int .i64 N] (.tup [.c (.sl 1 Nat (fun z _ => ix z) Z len), .c (ix 0)]) := by
  refine ⟨callOk Tryd.func35 (by kernel_rfl) (by kernel_rfl), rfl, fun O w vs hO _ ha => ?_⟩
  have e := argsX (vals := [.int .i64 N]) (ha (fun _ => undef) w (Ext.refl _ _))
  subst e
  refine (divisors_any N w hN0 hN).mono ?_
  rintro x w' ⟨v, rfl, hints, hb⟩
  refine ⟨_, rfl, hb, fun ρ' w'' hx => ⟨_, rfl, ?_, ⟨rfl, rfl⟩, trivial⟩⟩
  have hlen : (intL (dvs N)).length = (dvs N).length := by unfold intL; simp
  rw [hl]
  rcases hints with ⟨rfl, h0⟩ | ⟨g, cap, rfl, h1, h2, h3, h4, h5⟩
  · have : (dvs N).length = 0 := by rw [← hlen, h0]; rfl
    rw [this]
    exact ⟨rfl, sl_nil ρ'⟩
  · rw [← hlen]
    refine ⟨rfl, sl_of (fun i hi => (hO i hi).1) h3 h4 h1 hx (fun i j hi hj => ?_) ρ'⟩
    obtain rfl : j = 0 := by omega
    have hi' : i < (dvs N).length := by omega
    have hx' : (intL (dvs N))[i]? = some (((dvs N)[i] : Nat) : Int) := by unfold intL; simp [hi']
    refine ⟨.int .i64 ((dvs N)[i] : Nat), by rw [Nat.mul_one]; exact h5 i _ hx', rfl, fun r w => ?_⟩
    have hz := hZ i _ (List.getElem?_eq_getElem hi')
    simp only [hz]; exact rfl
end Go.Proofs.YteamlpflgfmieaaDoor

/-! Plain number theory: multiplicative functions; sums over the divisors. -/
namespace HP

theorem asc_lt : ∀ {b : Nat} {l : List (Nat × Nat)}, Asc b l → ∀ x ∈ l, b < x.1
  | _, [], _, x, h => by cases h
  | b, (p, e) :: l, ⟨h1, _, _, h4⟩, x, h => by
    rcases List.mem_cons.1 h with rfl | h
    · exact h1
    · have := asc_lt h4 x h; omega
theorem asc_nodup : ∀ {b : Nat} {l : List (Nat × Nat)}, Asc b l → l.Nodup
  | _, [], _ => List.nodup_nil
  | b, (p, e) :: l, ⟨_, _, _, h4⟩ => List.nodup_cons.2 ⟨fun h => by have := asc_lt h4 _ h; simp at this, asc_nodup h4⟩
theorem dvd_pow_one {p e : Nat} (he : 1 ≤ e) : p ∣ p ^ e := by
  have := Nat.pow_dvd_pow p he
  rwa [Nat.pow_one] at this
theorem facs_iff {N : Nat} (hN : 0 < N) (p e : Nat) : (p, e) ∈ facs N ↔ Prm p ∧ 1 ≤ e ∧ p ^ e ∣ N ∧ ¬ p ^ (e + 1) ∣ N := by
  constructor
  · intro h
    exact ⟨(facs_mem hN _ h).1, (facs_mem hN _ h).2.1, facs_pow_dvd hN _ h, facs_not hN _ h⟩
  · rintro ⟨hp, he, hd, hn⟩
    have h1 : p ∣ natL (facs N) := by
      rw [natL_facs N hN]
      exact Nat.dvd_trans (dvd_pow_one he) hd
    obtain ⟨⟨q, k⟩, hx, rfl⟩ := natL_prime hp (fun x hx => (facs_mem hN x hx).1) h1
    have h2 := facs_pow_dvd hN _ hx
    have h3 := facs_not hN _ hx
    have : k = e := by
      rcases Nat.lt_trichotomy k e with h | h | h
      · exact absurd (Nat.dvd_trans (Nat.pow_dvd_pow q h) hd) h3
      · exact h
      · exact absurd (Nat.dvd_trans (Nat.pow_dvd_pow q h) h2) hn
    subst this; exact hx
theorem pow_dvd_left {p e m n : Nat} (hp : Prm p) (hn : ¬ p ∣ n) : p ^ e ∣ m * n ↔ p ^ e ∣ m :=
  ⟨fun h => (Nat.Coprime.pow_left e (hp.coprime hn)).dvd_of_dvd_mul_right h, fun h => Nat.dvd_trans h ⟨n, rfl⟩⟩
theorem not_both {p m n : Nat} (hp : Prm p) (hc : Nat.Coprime m n) (h1 : p ∣ m) (h2 : p ∣ n) : False :=
  hp.not_dvd_one (by have := Nat.dvd_gcd h1 h2; rwa [hc] at this)
theorem facs_mul {m n : Nat} (hm : 0 < m) (hn : 0 < n) (hc : Nat.Coprime m n) : (facs (m * n)).Perm (facs m ++ facs n) := by
  refine (List.perm_ext_iff_of_nodup (asc_nodup (facs_asc1 _ (Nat.mul_pos hm hn))) ?_).2 ?_
  · refine List.nodup_append.2 ⟨asc_nodup (facs_asc1 _ hm), asc_nodup (facs_asc1 _ hn), ?_⟩
    rintro ⟨p, e⟩ hx ⟨q, k⟩ hy h
    cases h
    exact not_both (facs_mem hm _ hx).1 hc (facs_mem hm _ hx).2.2 (facs_mem hn _ hy).2.2
  · rintro ⟨p, e⟩
    rw [List.mem_append, facs_iff (Nat.mul_pos hm hn), facs_iff hm, facs_iff hn]
    constructor
    · rintro ⟨hp, he, h1, h2⟩
      by_cases hpn : p ∣ n
      · have hpm : ¬ p ∣ m := fun h => not_both hp hc h hpn
        rw [Nat.mul_comm, pow_dvd_left hp hpm] at h1 h2
        exact .inr ⟨hp, he, h1, h2⟩
      · rw [pow_dvd_left hp hpn] at h1 h2
        exact .inl ⟨hp, he, h1, h2⟩
    · rintro (⟨hp, he, h1, h2⟩ | ⟨hp, he, h1, h2⟩)
      · have hpn : ¬ p ∣ n := fun h => not_both hp hc (Nat.dvd_trans (dvd_pow_one he) h1) h
        rw [pow_dvd_left hp hpn, pow_dvd_left hp hpn]
        exact ⟨hp, he, h1, h2⟩
      · have hpm : ¬ p ∣ m := fun h => not_both hp hc h (Nat.dvd_trans (dvd_pow_one he) h1)
        rw [Nat.mul_comm, pow_dvd_left hp hpm, pow_dvd_left hp hpm]
        exact ⟨hp, he, h1, h2⟩
theorem prodL_perm (f : Nat → Nat → Int) {l m : List (Nat × Nat)} (h : l.Perm m) : prodL f l = prodL f m := by
  induction h with
  | nil => rfl
  | cons x _ ih => obtain ⟨p, e⟩ := x; show f p e * _ = f p e * _; rw [ih]
  | swap x y l =>
    obtain ⟨p, e⟩ := x; obtain ⟨q, k⟩ := y
    show f q k * (f p e * prodL f l) = f p e * (f q k * prodL f l)
    rw [← Int.mul_assoc, ← Int.mul_assoc, Int.mul_comm (f q k)]
  | trans _ _ a b => rw [a, b]
theorem prodL_coprime (f : Nat → Nat → Int) {m n : Nat} (hm : 0 < m) (hn : 0 < n) (hc : Nat.Coprime m n) : prodL f (facs (m * n)) = prodL f (facs m) * prodL f (facs n) := by
  rw [prodL_perm f (facs_mul hm hn hc), prodL_append]

/-- a sum over a list -/
def sumG (G : Nat → Int) : List Nat → Int
  | [] => 0
  | d :: l => G d + sumG G l
theorem sumG_append (G : Nat → Int) : ∀ l m, sumG G (l ++ m) = sumG G l + sumG G m
  | [], m => by simp [sumG]
  | d :: l, m => by rw [List.cons_append, sumG, sumG, sumG_append G l m, Int.add_assoc]
theorem sumG_next (G : Nat → Int) {l : List Nat} {i d : Nat} (h : l[i]? = some d) : sumG G (l.take (i + 1)) = sumG G (l.take i) + G d := by
  rw [List.take_add_one, h, sumG_append]
  simp [sumG]
theorem sumG_perm (G : Nat → Int) {l m : List Nat} (h : l.Perm m) : sumG G l = sumG G m := by
  induction h with
  | nil => rfl
  | cons x _ ih => show G x + _ = G x + _; rw [ih]
  | swap x y l => show G y + (G x + sumG G l) = G x + (G y + sumG G l); omega
  | trans _ _ a b => rw [a, b]
/-- the sum of G over 1, p, .., p^e -/
def geoS (G : Nat → Int) (p : Nat) : Nat → Int
  | 0 => G 1
  | e + 1 => geoS G p e + G (p ^ (e + 1))
/-- a multiplicative function -/
def Mult (G : Nat → Int) : Prop := G 1 = 1 ∧ ∀ a b, 0 < a → 0 < b → Nat.Coprime a b → G (a * b) = G a * G b
theorem sumG_map {G : Nat → Int} (hG : Mult G) {q m : Nat} (hq : 0 < q) (hm : 0 < m) (hc : Nat.Coprime m q) : ∀ L : List Nat, (∀ x ∈ L, x ∣ m) → sumG G (L.map (· * q)) = sumG G L * G q
  | [], _ => by simp [sumG]
  | y :: L, h => by
    have hy := h y (List.mem_cons_self ..)
    show G (y * q) + sumG G (L.map (· * q)) = (G y + sumG G L) * G q
    rw [sumG_map hG hq hm hc L (fun x hx => h x (List.mem_cons_of_mem _ hx)), hG.2 y q (Nat.pos_of_dvd_of_pos hy hm) hq (Nat.Coprime.coprime_dvd_left hy hc), Int.add_mul]
theorem dvE_sum {G : Nat → Int} (hG : Mult G) {p m : Nat} (hp : Prm p) (hm : 0 < m) (hpm : ¬ p ∣ m) {L : List Nat} (hL : ∀ x ∈ L, x ∣ m) : ∀ e, sumG G (dvE p L e) = sumG G L * geoS G p e
  | 0 => by rw [dvE, geoS, hG.1, Int.mul_one]
  | e + 1 => by
    rw [dvE, sumG_append, dvE_sum hG hp hm hpm hL e, sumG_map hG (Nat.pow_pos hp.pos) hm (Nat.Coprime.pow_left _ (hp.coprime hpm)).symm L hL, geoS, Int.mul_add]
theorem dvF_sum {G : Nat → Int} (hG : Mult G) {N : Nat} (hN : 0 < N) : ∀ (r l : List (Nat × Nat)) (L : List Nat), facs N = l ++ r → (∀ x ∈ L, x ∣ natL l) → sumG G (dvF L r) = sumG G L * prodL (geoS G) r
  | [], _, L, _, _ => by rw [dvF, prodL, Int.mul_one]
  | (p, e) :: r, l, L, hl, hL => by
    have hmem : (p, e) ∈ facs N := by rw [hl]; simp
    have hp : Prm p := (facs_mem hN _ hmem).1
    have hnot := facs_not hN _ hmem
    have hNe : N = natL l * (p ^ e * natL r) := by rw [← natL_facs N hN, hl, natL_append]; rfl
    have hlp : 0 < natL l := Nat.pos_of_ne_zero fun h => by rw [h, Nat.zero_mul] at hNe; omega
    have hpl : ¬ p ∣ natL l := fun h => hnot (by
      rw [hNe]
      have h1 : p * p ^ e ∣ natL l * p ^ e := Nat.mul_dvd_mul_right h _
      rw [show natL l * (p ^ e * natL r) = natL l * p ^ e * natL r by grind, show p ^ (e + 1) = p * p ^ e by rw [Nat.pow_succ, Nat.mul_comm]]
      exact Nat.dvd_trans h1 ⟨natL r, rfl⟩)
    have e1 : natL (l ++ [(p, e)]) = natL l * p ^ e := by
      rw [natL_append]
      show natL l * (p ^ e * 1) = _
      rw [Nat.mul_one]
    have ih := dvF_sum hG hN r (l ++ [(p, e)]) (dvE p L e) (by rw [hl, List.append_assoc]; rfl) (fun x hx => by
      obtain ⟨j, hj, y, hy, rfl⟩ := (dvE_mem e).1 hx
      rw [e1]
      exact Nat.mul_dvd_mul (hL y hy) (Nat.pow_dvd_pow p hj))
    rw [dvF, ih, dvE_sum hG hp hlp hpl hL e, prodL, Int.mul_assoc]
theorem dvs_nodup (N : Nat) : (dvs N).Nodup := (dvs_sorted N).imp fun h => Nat.ne_of_lt h
theorem dvs_perm {N : Nat} (hN : 0 < N) : (dvs N).Perm (dvF [1] (facs N)) :=
  (List.perm_ext_iff_of_nodup (dvs_nodup N) (dvF_facs hN).2).2 fun x => by rw [dvs_mem hN, (dvF_facs hN).1]
theorem dvs_sum {G : Nat → Int} (hG : Mult G) {N : Nat} (hN : 0 < N) : sumG G (dvs N) = prodL (geoS G) (facs N) := by
  rw [sumG_perm G (dvs_perm hN), dvF_sum hG hN (facs N) [] [1] rfl (fun x hx => by rw [List.mem_singleton.1 hx]; exact Nat.dvd_refl _)]
  show (G 1 + 0) * _ = _
  rw [hG.1, Int.add_zero, Int.one_mul]
theorem facs_pow {p e : Nat} (hp : Prm p) (he : 0 < e) : facs (p ^ e) = [(p, e)] := by
  have := facs_of (b := 1) [(p, e)] ⟨hp.1, hp, he, trivial⟩
  rwa [show natL [(p, e)] = p ^ e from Nat.mul_one _] at this
theorem mult_prodL (f : Nat → Nat → Int) : Mult (fun n => prodL f (facs n)) :=
  ⟨by show prodL f (facs 1) = 1; rw [facs_small (Nat.le_refl 1)]; rfl, fun _ _ ha hb hc => prodL_coprime f ha hb hc⟩
theorem geo_phi {p : Nat} (hp : Prm p) : ∀ e, geoS phi p e = (p : Int) ^ e
  | 0 => (mult_prodL phiF).1
  | e + 1 => by
    have h : phi (p ^ (e + 1)) = phiF p (e + 1) := by
      show prodL phiF (facs (p ^ (e + 1))) = _
      rw [facs_pow hp (by omega)]
      show phiF p (e + 1) * 1 = _
      rw [Int.mul_one]
    rw [geoS, geo_phi hp e, h, phiF_eq hp.pos]
    rw [Nat.add_sub_cancel, Int.natCast_pow, Int.pow_succ, Int.mul_sub, Int.mul_one]
    omega
theorem sum_phi {N : Nat} (hN : 0 < N) : sumG phi (dvs N) = N := by
  have h := dvs_sum (mult_prodL phiF) hN
  rw [show sumG phi (dvs N) = _ from h, ← prod_facs N hN]
  exact prodL_congr _ fun x hx => geo_phi (facs_mem hN x hx).1 x.2
theorem geo_mob {p : Nat} (hp : Prm p) : ∀ e, 1 ≤ e → geoS mob p e = 0
  | 0, h => absurd h (by omega)
  | e + 1, _ => by
    have h : mob (p ^ (e + 1)) = mobF p (e + 1) := by
      show prodL mobF (facs (p ^ (e + 1))) = _
      rw [facs_pow hp (by omega)]
      show mobF p (e + 1) * 1 = _
      rw [Int.mul_one]
    rw [geoS, h]
    by_cases h0 : e = 0
    · subst h0
      rw [geoS, show mob 1 = 1 from (mult_prodL mobF).1]
      rfl
    · rw [geo_mob hp e (by omega)]
      unfold mobF
      rw [if_pos (by omega)]
      rfl
theorem sum_mob {N : Nat} (hN : 0 < N) : sumG mob (dvs N) = if N = 1 then 1 else 0 := by
  have h := dvs_sum (mult_prodL mobF) hN
  rw [show sumG mob (dvs N) = _ from h]
  split
  · next h => subst h; rw [facs_small (Nat.le_refl 1)]; rfl
  · next h =>
    have hm := facs_mem hN
    rw [facs_big (by omega)] at hm ⊢
    have h1 := hm _ (List.mem_cons_self ..)
    have h2 : geoS (fun n => prodL mobF (facs n)) (lpf N) (mlt (lpf N) N) = 0 := geo_mob h1.1 _ h1.2.1
    rw [prodL, h2, Int.zero_mul]
theorem phi_coprime {m n : Nat} (hm : 0 < m) (hn : 0 < n) (hc : Nat.Coprime m n) : phi (m * n) = phi m * phi n := prodL_coprime phiF hm hn hc
theorem psi_coprime {m n : Nat} (hm : 0 < m) (hn : 0 < n) (hc : Nat.Coprime m n) : psi (m * n) = psi m * psi n := prodL_coprime psiF hm hn hc
theorem mult_pow (k : Nat) : Mult (fun d => (d : Int) ^ k) :=
  ⟨Int.one_pow, fun a b _ _ _ => by simp [Int.mul_pow]⟩
theorem sigma_coprime (k : Nat) {m n : Nat} (hm : 0 < m) (hn : 0 < n) (hc : Nat.Coprime m n) : sumG (fun d => (d : Int) ^ k) (dvs (m * n)) = sumG (fun d => (d : Int) ^ k) (dvs m) * sumG (fun d => (d : Int) ^ k) (dvs n) := by
  rw [dvs_sum (mult_pow k) (Nat.mul_pos hm hn), dvs_sum (mult_pow k) hm, dvs_sum (mult_pow k) hn, prodL_coprime _ hm hn hc]
theorem sumG_bd {G : Nat → Int} {B : Int} (hB : 0 ≤ B) (h : ∀ d, -B ≤ G d ∧ G d ≤ B) : ∀ l : List Nat, -(B * l.length) ≤ sumG G l ∧ sumG G l ≤ B * l.length
  | [] => by simp [sumG]
  | d :: l => by
    have h1 := h d
    have h2 := sumG_bd hB h l
    rw [sumG, List.length_cons, Int.natCast_add, Int.mul_add]
    simp only [Int.natCast_one, Int.mul_one]
    omega
end HP

/-! Plain number theory: products over the primes up to a bound, taken one number at a time; the lists of the dimension formulas. -/
namespace HP

/-- how many of the list's primes are below k -/
def ixL (k : Nat) : List (Nat × Nat) → Nat
  | [] => 0
  | (p, _) :: l => if p < k then ixL k l + 1 else 0
theorem ixL_low {k : Nat} : ∀ {l : List (Nat × Nat)}, (∀ x ∈ l, k ≤ x.1) → ixL k l = 0
  | [], _ => rfl
  | (p, e) :: l, h => by
    have := h _ (List.mem_cons_self ..)
    rw [ixL, if_neg (by simp at this; omega)]
theorem ixL_high {k : Nat} : ∀ {l : List (Nat × Nat)}, (∀ x ∈ l, x.1 < k) → ixL k l = l.length
  | [], _ => rfl
  | (p, e) :: l, h => by
    have := h _ (List.mem_cons_self ..)
    rw [ixL, if_pos (by simpa using this), ixL_high fun x hx => h x (List.mem_cons_of_mem _ hx)]; rfl
theorem ixL_yes {k e : Nat} : ∀ {b : Nat} {l : List (Nat × Nat)}, Asc b l → (k, e) ∈ l → l[ixL k l]? = some (k, e) ∧ ixL (k + 1) l = ixL k l + 1
  | _, [], _, h => by cases h
  | b, (p, f) :: l, ⟨h1, h2, h3, h4⟩, h => by
    rcases List.mem_cons.1 h with h | h
    · cases h
      have hlow : ixL (k + 1) l = 0 := ixL_low fun x hx => by have := asc_lt h4 x hx; omega
      rw [ixL, if_neg (by omega), ixL, if_pos (by omega), hlow]
      exact ⟨rfl, rfl⟩
    · have hlt : p < k := asc_lt h4 _ h
      obtain ⟨i1, i2⟩ := ixL_yes h4 h
      rw [ixL, if_pos hlt, ixL, if_pos (by omega), i2]
      exact ⟨i1, rfl⟩
theorem ixL_no {k : Nat} : ∀ {b : Nat} {l : List (Nat × Nat)}, Asc b l → (∀ e, (k, e) ∉ l) → ixL (k + 1) l = ixL k l
  | _, [], _, _ => rfl
  | b, (p, f) :: l, ⟨h1, h2, h3, h4⟩, h => by
    have hne : p ≠ k := fun hp => h f (by rw [hp]; exact List.mem_cons_self ..)
    by_cases hlt : p < k
    · rw [ixL, if_pos (by omega), ixL, if_pos hlt, ixL_no h4 fun e he => h e (List.mem_cons_of_mem _ he)]
    · rw [ixL, if_neg (by omega), ixL, if_neg hlt]
theorem mlt_of {p e n : Nat} (hp : 2 ≤ p) (hn : 0 < n) (h1 : p ^ e ∣ n) (h2 : ¬ p ^ (e + 1) ∣ n) : mlt p n = e := by
  obtain ⟨m, rfl⟩ := h1
  have hm : ¬ p ∣ m := fun h => h2 (by rw [Nat.pow_succ]; exact Nat.mul_dvd_mul_left _ h)
  exact (mlt_pow_mul hp (Nat.pos_of_ne_zero fun h => by rw [h, Nat.mul_zero] at hn; omega) hm e).1
theorem mem_mlt {n p : Nat} (hn : 0 < n) (hp : Prm p) (hd : p ∣ n) : (p, mlt p n) ∈ facs n := by
  obtain ⟨⟨q, k⟩, hx, rfl⟩ := natL_prime hp (fun x hx => (facs_mem hn x hx).1) (show p ∣ natL (facs n) by rw [natL_facs n hn]; exact hd)
  have h := (facs_iff hn q k).1 hx
  rw [mlt_of hp.1 hn h.2.2.1 h.2.2.2]
  exact hx
theorem facs_e {n p e : Nat} (hn : 0 < n) (h : (p, e) ∈ facs n) : e = mlt p n := by
  have h := (facs_iff hn p e).1 h
  exact (mlt_of h.1.1 hn h.2.2.1 h.2.2.2).symm
/-- the number of primes of n below k -/
def ixN (n k : Nat) : Nat := ixL k (facs n)
theorem ixN_two {n : Nat} (hn : 0 < n) : ixN n 2 = 0 := ixL_low fun x hx => (facs_mem hn x hx).1.1
theorem ixN_end {n k : Nat} (hn : 0 < n) (hk : n < k) : ixN n k = (facs n).length := ixL_high fun x hx => by
  have := Nat.le_of_dvd hn (facs_mem hn x hx).2.2
  omega
theorem ixN_yes {n k : Nat} (hn : 0 < n) (hp : Prm k) (hd : k ∣ n) : (facs n)[ixN n k]? = some (k, mlt k n) ∧ ixN n (k + 1) = ixN n k + 1 :=
  ixL_yes (facs_asc1 n hn) (mem_mlt hn hp hd)
theorem ixN_no {n k : Nat} (hn : 0 < n) (h : ¬ (Prm k ∧ k ∣ n)) : ixN n (k + 1) = ixN n k :=
  ixL_no (facs_asc1 n hn) fun _ he => h ⟨(facs_mem hn _ he).1, (facs_mem hn _ he).2.2⟩
theorem ixN_le {n : Nat} (k : Nat) : ixN n k ≤ (facs n).length := by
  unfold ixN
  generalize facs n = l
  induction l with
  | nil => exact Nat.le_refl _
  | cons x l ih =>
    obtain ⟨p, e⟩ := x
    rw [ixL]
    split
    · simp; omega
    · omega
/-- a product over the primes below k -/
def parN (f : Nat → Nat → Int) (n k : Nat) : Int := prodL f ((facs n).take (ixN n k))
theorem parN_two (f) {n : Nat} (hn : 0 < n) : parN f n 2 = 1 := by unfold parN; rw [ixN_two hn]; rfl
theorem parN_end (f) {n k : Nat} (hn : 0 < n) (hk : n < k) : parN f n k = prodL f (facs n) := by unfold parN; rw [ixN_end hn hk, List.take_length]
theorem parN_yes (f) {n k : Nat} (hn : 0 < n) (hp : Prm k) (hd : k ∣ n) : parN f n (k + 1) = parN f n k * f k (mlt k n) := by
  obtain ⟨h1, h2⟩ := ixN_yes hn hp hd
  unfold parN
  rw [h2, prodL_next f h1]
theorem parN_no (f) {n k : Nat} (hn : 0 < n) (h : ¬ (Prm k ∧ k ∣ n)) : parN f n (k + 1) = parN f n k := by unfold parN; rw [ixN_no hn h]
/-- the same where the rest of n stands beside it -/
def stpN (f : Nat → Nat → Int) (n k : Nat) : Int := stepN f (facs n) (ixN n k)
theorem stpN_two (f) {n : Nat} (hn : 0 < n) : stpN f n 2 = n := by unfold stpN; rw [ixN_two hn, stepN_zero, natL_facs n hn]
theorem stpN_end (f) {n k : Nat} (hn : 0 < n) (hk : n < k) : stpN f n k = prodL f (facs n) := by unfold stpN; rw [ixN_end hn hk, stepN_end]
theorem stpN_no (f) {n k : Nat} (hn : 0 < n) (h : ¬ (Prm k ∧ k ∣ n)) : stpN f n (k + 1) = stpN f n k := by unfold stpN; rw [ixN_no hn h]

/-- the factor of lambda at p^e; c: the exponent in the conductor -/
def lamF (f p e : Nat) : Int := if e < 2 * mlt p f then ((2 * p ^ (e - mlt p f) : Nat) : Int) else if e % 2 = 0 then ((p ^ (e / 2) + p ^ (e / 2 - 1) : Nat) : Int) else ((2 * p ^ ((e - 1) / 2) : Nat) : Int)
def lam (f n : Nat) : Int := prodL (lamF f) (facs n)
theorem lamF_bd {f p e : Nat} (hp : 2 ≤ p) (he : 1 ≤ e) : 1 ≤ lamF f p e ∧ lamF f p e ≤ 2 * pwF p e := by
  have hpos : ∀ k, 1 ≤ p ^ k := fun k => Nat.pow_pos (by omega)
  have hle : ∀ k, k ≤ e → p ^ k ≤ p ^ e := fun k hk => Nat.pow_le_pow_right (by omega) hk
  have e0 : pwF p e = ((p ^ e : Nat) : Int) := by unfold pwF; rw [Int.natCast_pow]
  rw [e0]
  unfold lamF
  split
  · have a := hpos (e - mlt p f)
    have b := hle (e - mlt p f) (by omega)
    omega
  · split
    · have a := hpos (e / 2)
      have b := hle (e / 2) (by omega)
      have c := hle (e / 2 - 1) (by omega)
      omega
    · have a := hpos ((e - 1) / 2)
      have b := hle ((e - 1) / 2) (by omega)
      omega
theorem prodL_le' {f g : Nat → Nat → Int} : ∀ l : List (Nat × Nat), (∀ x ∈ l, 1 ≤ f x.1 x.2 ∧ f x.1 x.2 ≤ g x.1 x.2) → 1 ≤ prodL f l ∧ prodL f l ≤ prodL g l
  | [], _ => ⟨Int.le_refl _, Int.le_refl _⟩
  | (p, e) :: l, h => by
    obtain ⟨a, b⟩ := h _ (List.mem_cons_self ..)
    obtain ⟨c, d⟩ := prodL_le' l fun x hx => h x (List.mem_cons_of_mem _ hx)
    have e1 : 1 * 1 ≤ f p e * prodL f l := Int.mul_le_mul a c (by omega) (by simp at a; omega)
    have e2 : f p e * prodL f l ≤ g p e * prodL g l := Int.mul_le_mul b d (by omega) (by simp at a b; omega)
    rw [Int.mul_one] at e1
    exact ⟨e1, e2⟩
theorem two_pw {p e : Nat} (hp : 2 ≤ p) (he : 1 ≤ e) : 2 * pwF p e ≤ pwF p e * pwF p e := by
  have h1 : p ^ 1 ≤ p ^ e := Nat.pow_le_pow_right (by omega) he
  have e0 : pwF p e = ((p ^ e : Nat) : Int) := by unfold pwF; rw [Int.natCast_pow]
  rw [e0]
  rw [Nat.pow_one] at h1
  have h2 : 2 * p ^ e ≤ p ^ e * p ^ e := Nat.mul_le_mul_right _ (Nat.le_trans hp h1)
  exact_mod_cast h2
theorem lam_pre (f : Nat) {n : Nat} (hn : 0 < n) (i : Nat) : 1 ≤ prodL (lamF f) ((facs n).take i) ∧ prodL (lamF f) ((facs n).take i) ≤ (n : Int) * n := by
  have hx : facs n = (facs n).take i ++ (facs n).drop i := (List.take_append_drop i _).symm
  have hm : ∀ x ∈ (facs n).take i, 2 ≤ x.1 ∧ 1 ≤ x.2 := fun x h => by
    have h1 : (x.1, x.2) ∈ facs n := List.mem_of_mem_take h
    have := facs_bounds hn h1
    exact ⟨this.2.1, this.2.2.1⟩
  obtain ⟨a, b⟩ := prodL_le' (f := lamF f) (g := fun p e => pwF p e * pwF p e) _ fun x h => ⟨(lamF_bd (f := f) (hm x h).1 (hm x h).2).1, Int.le_trans (lamF_bd (hm x h).1 (hm x h).2).2 (two_pw (hm x h).1 (hm x h).2)⟩
  rw [prodL_mul] at b
  obtain ⟨c, d⟩ := prefix_pw hn hx
  have : prodL pwF ((facs n).take i) * prodL pwF ((facs n).take i) ≤ (n : Int) * n := Int.mul_le_mul d d (by omega) (by omega)
  exact ⟨a, by omega⟩
theorem lam_bd (f : Nat) {n : Nat} (hn : 0 < n) : 1 ≤ lam f n ∧ lam f n ≤ (n : Int) * n := by
  have := lam_pre f hn (facs n).length
  rw [List.take_length] at this
  exact this
/-- the factor of beta -/
def betF (_ e : Nat) : Int := if e = 1 then -2 else if e = 2 then 1 else 0
def bet (n : Nat) : Int := prodL betF (facs n)

/-- the sum of g over the a below m with c a solution -/
def rootS (n c : Nat) (g : Nat → Int) : Nat → Int
  | 0 => 0
  | a + 1 => rootS n c g a + if (a * a + c * a + 1) % n = 0 then g a else 0
theorem rootS_bd {n c : Nat} {g : Nat → Int} {B : Int} (hB : 0 ≤ B) (hg : ∀ a, -B ≤ g a ∧ g a ≤ B) : ∀ m : Nat, -(B * m) ≤ rootS n c g m ∧ rootS n c g m ≤ B * m
  | 0 => by simp [rootS]
  | m + 1 => by
    have h1 := hg m
    have h2 := rootS_bd (n := n) (c := c) hB hg m
    rw [rootS, Int.natCast_add, Int.mul_add]
    simp only [Int.natCast_one, Int.mul_one]
    split <;> omega
/-- the sum from 1 to m -/
def rootR (n c : Nat) (g : Nat → Int) : Nat → Int
  | 0 => 0
  | a + 1 => rootR n c g a + if ((a + 1) * (a + 1) + c * (a + 1) + 1) % n = 0 then g (a + 1) else 0
theorem rootS_shift {n c : Nat} (g h : Nat → Int) (h0 : ∀ a, 0 < a → g a = h a) : ∀ m, rootS n c g (m + 1) = (if (0 * 0 + c * 0 + 1) % n = 0 then g 0 else 0) + rootR n c h m
  | 0 => by simp [rootS, rootR]
  | m + 1 => by rw [rootS, rootS_shift g h h0 m, rootR, h0 (m + 1) (by omega), Int.add_assoc]
theorem rootS_rootR {n c : Nat} (hn : 0 < n) (g h : Nat → Int) (h0 : ∀ a, 0 < a → g a = h a) (h1 : g 0 = h n) : rootS n c g n = rootR n c h n := by
  obtain ⟨m, rfl⟩ : ∃ m, n = m + 1 := ⟨n - 1, by omega⟩
  rw [rootS_shift g h h0 m, rootR, h1, Int.add_comm]
  congr 1
  have e : ((m + 1) * (m + 1) + c * (m + 1) + 1) % (m + 1) = (0 * 0 + c * 0 + 1) % (m + 1) := by
    rw [show (m + 1) * (m + 1) + c * (m + 1) + 1 = 1 + (m + 1 + c) * (m + 1) by grind, Nat.add_mul_mod_self_right]
    simp
  rw [e]

/-- the dimension of the cusp forms, times 12 -/
def dim12 (n k f : Nat) (four three : Int) : Int :=
  ((k : Int) - 1) * psi n - 6 * lam f n + (if k = 2 ∧ f = 1 then 12 else 0) + (if k % 4 = 0 then 3 * four else if k % 4 = 2 then -(3 * four) else 0) + (if k % 3 = 0 then 2 * three else if k % 3 = 2 then -(2 * three) else 0)
def cuspV (n k : Nat) (D : Int) : Int :=
  (dim12 n k D.natAbs (rootR n 0 (fun a => jac D a) n) (rootR n 1 (fun a => 2 * jac D a) n)).tdiv 12
theorem psiN_bd {N : Nat} (hN : 0 < N) (i : Nat) : 0 ≤ stepN psiF (facs N) i ∧ stepN psiF (facs N) i ≤ (N : Int) * N := by
  have h := (List.take_append_drop i (facs N)).symm
  have hle := prodL_le (f := psiF) (g := fun p e => pwF p e * pwF p e) ((facs N).take i) (fun x hx => by
    obtain ⟨p, e⟩ := x
    obtain ⟨a, b, c, _⟩ := facs_bounds hN (mem_prefix h hx)
    exact psiF_le b c)
  rw [prodL_mul] at hle
  have e : prodL pwF ((facs N).take i) * natL ((facs N).drop i) = N := by
    rw [natL_pw, ← Int.natCast_mul, ← natL_append, ← h, natL_facs N hN]
  have hp := (prefix_pw hN h).1
  have hd : (1 : Int) ≤ natL ((facs N).drop i) := by
    have : natL ((facs N).drop i) ≠ 0 := fun h0 => by rw [h0] at e; simp at e; omega
    omega
  unfold stepN
  refine ⟨Int.mul_nonneg hle.1 (by omega), ?_⟩
  have h1 := Int.mul_le_mul_of_nonneg_right hle.2 (show (0 : Int) ≤ natL ((facs N).drop i) by omega)
  have h2 : prodL pwF ((facs N).take i) * prodL pwF ((facs N).take i) * natL ((facs N).drop i) ≤ (N : Int) * N := by
    rw [Int.mul_assoc, e]
    have h3 : prodL pwF ((facs N).take i) * 1 ≤ prodL pwF ((facs N).take i) * natL ((facs N).drop i) := Int.mul_le_mul_of_nonneg_left hd (by omega)
    rw [e, Int.mul_one] at h3
    exact Int.mul_le_mul_of_nonneg_right h3 (by omega)
  exact Int.le_trans h1 h2

end HP

/- States in letters: the small functions of the dimension formulas. -/
namespace Go.Proofs.YteamlpflgfmieaaDoor
open Go Go.RowKit Go.VG HP
theorem exp_sp (N P : Nat) (hN0 : 1 ≤ N) (hN : N ≤ 2147483647) (hP : 2 ≤ P) (hP2 : P ≤ 2147483647) : Sp CX 75 [int .i64 N, int .i64 P] (int .i64 (mlt P N : Nat)) := by
  refine fn_spec (C := CX) ⟨16, [], []⟩ [] tysX_ok mixed Tryd.func75 rfl (by kernel_rfl) Tryd.ntmps75 (by kernel_rfl) rfl ?_
  repeat' (conv => whnf
           first
             | (refine Ob.mk (by (first | omega | (simp only [InK]; omega) | exact ⟨by omega, tdivIn (by omega) (by omega)⟩ | exact ⟨by first | omega | (simp only [InK]; omega), by first | omega | (simp only [InK]; omega)⟩)) ?_)
             | (refine Cases.yes (by (first | assumption | exact decide_eq_true (by first | assumption | omega) | exact congrArg (!·) (decide_eq_false (by first | assumption | omega)) | exact congrArg (!·) (show _ = false by assumption) | rfl)) ?_)
             | (refine Cases.no (by (first | assumption | exact decide_eq_false (by first | assumption | omega) | exact congrArg (!·) (decide_eq_true (by first | assumption | omega)) | exact congrArg (!·) (show _ = true by assumption) | rfl)) ?_)
             | (refine Idx.mk ⟨_, rfl, by first | assumption | omega, ?_⟩)
             | (refine Idx.mk ⟨0, rfl, by omega, ?_⟩)
             | (refine DrawOb.start ?_)
             | (refine TryF.fast rfl (by decide +kernel) (by kernel_rfl) ?_)
             | (refine TryF.next rfl ?_)
             | (refine TryF.other ?_)
             | (refine TryG.go rfl (by decide +kernel) (by kernel_rfl) ?_)
             | (refine TryG.next rfl ?_))
  refine ⟨⟨Nat × Nat, fun (m, j) => ⟨[(0, int .i64 m), (1, int .i64 P), (5, int .i64 j)], [], 0⟩, fun (m, j) => 0 < m ∧ m ≤ N ∧ j + m ≤ N + 1 ∧ mlt P N = j + mlt P m, fun (m, _) => m, ⟨(N, 0), [], ⟨hN0, Nat.le_refl _, by omega, (Nat.zero_add _).symm⟩, (by refine ⟨?_, ?_, rfl⟩ <;> repeat (first | exact TmE.nil | exact OwnE.nil | refine TmE.cons (by first | exact AvLe.refl _ | exact AvLe.int (by omega) | exact AvLe.bool (by first | rfl | assumption)) ?_ | refine OwnE.cons rfl (BlkLe.refl _) ?_ | refine OwnE.cons rfl BlkLe.zero ?_))⟩, ?_⟩⟩
  rintro ⟨m, j⟩ ⟨k1, k2, k3, k4⟩
  have e1 : (m : Int).tmod P = ((m % P : Nat) : Int) := (Int.ofNat_tmod m P).symm
  have e2 : (m : Int).tdiv P = ((m / P : Nat) : Int) := (Int.ofNat_tdiv m P).symm
  by_cases hd : m % P = 0
  · have hle : P ≤ m := Nat.le_of_dvd k1 (Nat.dvd_of_mod_eq_zero hd)
    have hdv : 0 < m / P := Nat.div_pos hle (by omega)
    have hlt : m / P < m := Nat.div_lt_self k1 (by omega)
    rw [mlt_yes hP k1 hd] at k4
    repeat' (conv => whnf
             first
               | (refine Ob.mk (by (first | omega | (simp only [InK]; omega) | exact ⟨by omega, tdivIn (by omega) (by omega)⟩ | exact ⟨by first | omega | (simp only [InK]; omega), by first | omega | (simp only [InK]; omega)⟩)) ?_)
               | (refine Cases.yes (by (first | assumption | exact decide_eq_true (by first | assumption | omega) | exact congrArg (!·) (decide_eq_false (by first | assumption | omega)) | exact congrArg (!·) (show _ = false by assumption) | rfl)) ?_)
               | (refine Cases.no (by (first | assumption | exact decide_eq_false (by first | assumption | omega) | exact congrArg (!·) (decide_eq_true (by first | assumption | omega)) | exact congrArg (!·) (show _ = true by assumption) | rfl)) ?_)
               | (refine Idx.mk ⟨_, rfl, by first | assumption | omega, ?_⟩)
               | (refine Idx.mk ⟨0, rfl, by omega, ?_⟩)
               | (refine DrawOb.start ?_)
               | (refine TryF.fast rfl (by decide +kernel) (by kernel_rfl) ?_)
               | (refine TryF.next rfl ?_)
               | (refine TryF.other ?_)
               | (refine TryG.go rfl (by decide +kernel) (by kernel_rfl) ?_)
               | (refine TryG.next rfl ?_))
    exact ⟨(m / P, j + 1), [], ⟨hdv, by omega, by omega, by omega⟩, hlt, (by refine ⟨?_, ?_, rfl⟩ <;> repeat (first | exact TmE.nil | exact OwnE.nil | refine TmE.cons (by first | exact AvLe.refl _ | exact AvLe.int (by omega) | exact AvLe.bool (by first | rfl | assumption)) ?_ | refine OwnE.cons rfl (BlkLe.refl _) ?_ | refine OwnE.cons rfl BlkLe.zero ?_))⟩
  · rw [mlt_no hd, Nat.add_zero] at k4
    repeat' (conv => whnf
             first
               | (refine Ob.mk (by (first | omega | (simp only [InK]; omega) | exact ⟨by omega, tdivIn (by omega) (by omega)⟩ | exact ⟨by first | omega | (simp only [InK]; omega), by first | omega | (simp only [InK]; omega)⟩)) ?_)
               | (refine Cases.yes (by (first | assumption | exact decide_eq_true (by first | assumption | omega) | exact congrArg (!·) (decide_eq_false (by first | assumption | omega)) | exact congrArg (!·) (show _ = false by assumption) | rfl)) ?_)
               | (refine Cases.no (by (first | assumption | exact decide_eq_false (by first | assumption | omega) | exact congrArg (!·) (decide_eq_true (by first | assumption | omega)) | exact congrArg (!·) (show _ = true by assumption) | rfl)) ?_)
               | (refine Idx.mk ⟨_, rfl, by first | assumption | omega, ?_⟩)
               | (refine Idx.mk ⟨0, rfl, by omega, ?_⟩)
               | (refine DrawOb.start ?_)
               | (refine TryF.fast rfl (by decide +kernel) (by kernel_rfl) ?_)
               | (refine TryF.next rfl ?_)
               | (refine TryF.other ?_)
               | (refine TryG.go rfl (by decide +kernel) (by kernel_rfl) ?_)
               | (refine TryG.next rfl ?_))
    refine ⟨⟨_, _, rfl, rfl, AvLe.int ?_⟩⟩
    omega
theorem rexp_sp (N P : Nat) (hN0 : 1 ≤ N) (hN : N ≤ 2147483647) (hP : 2 ≤ P) (hP2 : P ≤ 2147483647) : Sp CX 67 [int .i64 N, int .i64 P] (int .i64 (mlt P N : Nat)) := by
  refine fn_spec (C := CX) ⟨16, [], []⟩ [] tysX_ok mixed Tryd.func67 rfl (by kernel_rfl) Tryd.ntmps67 (by kernel_rfl) rfl ?_
  repeat' (conv => whnf
           first
             | (refine Ob.mk (by (first | omega | (simp only [InK]; omega) | exact ⟨by omega, tdivIn (by omega) (by omega)⟩ | exact ⟨by first | omega | (simp only [InK]; omega), by first | omega | (simp only [InK]; omega)⟩)) ?_)
             | (refine Cases.yes (by (first | assumption | exact decide_eq_true (by first | assumption | omega) | exact congrArg (!·) (decide_eq_false (by first | assumption | omega)) | exact congrArg (!·) (show _ = false by assumption) | rfl)) ?_)
             | (refine Cases.no (by (first | assumption | exact decide_eq_false (by first | assumption | omega) | exact congrArg (!·) (decide_eq_true (by first | assumption | omega)) | exact congrArg (!·) (show _ = true by assumption) | rfl)) ?_)
             | (refine Idx.mk ⟨_, rfl, by first | assumption | omega, ?_⟩)
             | (refine Idx.mk ⟨0, rfl, by omega, ?_⟩)
             | (refine DrawOb.start ?_)
             | (refine TryF.fast rfl (by decide +kernel) (by kernel_rfl) ?_)
             | (refine TryF.next rfl ?_)
             | (refine TryF.other ?_)
             | (refine TryG.go rfl (by decide +kernel) (by kernel_rfl) ?_)
             | (refine TryG.next rfl ?_))
  refine ⟨⟨Nat × Nat, fun (m, j) => ⟨[(0, int .i64 m), (1, int .i64 P), (5, int .i64 j)], [], 0⟩, fun (m, j) => 0 < m ∧ m ≤ N ∧ j + m ≤ N + 1 ∧ mlt P N = j + mlt P m, fun (m, _) => m, ⟨(N, 0), [], ⟨hN0, Nat.le_refl _, by omega, (Nat.zero_add _).symm⟩, (by refine ⟨?_, ?_, rfl⟩ <;> repeat (first | exact TmE.nil | exact OwnE.nil | refine TmE.cons (by first | exact AvLe.refl _ | exact AvLe.int (by omega) | exact AvLe.bool (by first | rfl | assumption)) ?_ | refine OwnE.cons rfl (BlkLe.refl _) ?_ | refine OwnE.cons rfl BlkLe.zero ?_))⟩, ?_⟩⟩
  rintro ⟨m, j⟩ ⟨k1, k2, k3, k4⟩
  have e1 : (m : Int).tmod P = ((m % P : Nat) : Int) := (Int.ofNat_tmod m P).symm
  have e2 : (m : Int).tdiv P = ((m / P : Nat) : Int) := (Int.ofNat_tdiv m P).symm
  by_cases hd : m % P = 0
  · have hle : P ≤ m := Nat.le_of_dvd k1 (Nat.dvd_of_mod_eq_zero hd)
    have hdv : 0 < m / P := Nat.div_pos hle (by omega)
    have hlt : m / P < m := Nat.div_lt_self k1 (by omega)
    rw [mlt_yes hP k1 hd] at k4
    repeat' (conv => whnf
             first
               | (refine Ob.mk (by (first | omega | (simp only [InK]; omega) | exact ⟨by omega, tdivIn (by omega) (by omega)⟩ | exact ⟨by first | omega | (simp only [InK]; omega), by first | omega | (simp only [InK]; omega)⟩)) ?_)
               | (refine Cases.yes (by (first | assumption | exact decide_eq_true (by first | assumption | omega) | exact congrArg (!·) (decide_eq_false (by first | assumption | omega)) | exact congrArg (!·) (show _ = false by assumption) | rfl)) ?_)
               | (refine Cases.no (by (first | assumption | exact decide_eq_false (by first | assumption | omega) | exact congrArg (!·) (decide_eq_true (by first | assumption | omega)) | exact congrArg (!·) (show _ = true by assumption) | rfl)) ?_)
               | (refine Idx.mk ⟨_, rfl, by first | assumption | omega, ?_⟩)
               | (refine Idx.mk ⟨0, rfl, by omega, ?_⟩)
               | (refine DrawOb.start ?_)
               | (refine TryF.fast rfl (by decide +kernel) (by kernel_rfl) ?_)
               | (refine TryF.next rfl ?_)
               | (refine TryF.other ?_)
               | (refine TryG.go rfl (by decide +kernel) (by kernel_rfl) ?_)
               | (refine TryG.next rfl ?_))
    exact ⟨(m / P, j + 1), [], ⟨hdv, by omega, by omega, by omega⟩, hlt, (by refine ⟨?_, ?_, rfl⟩ <;> repeat (first | exact TmE.nil | exact OwnE.nil | refine TmE.cons (by first | exact AvLe.refl _ | exact AvLe.int (by omega) | exact AvLe.bool (by first | rfl | assumption)) ?_ | refine OwnE.cons rfl (BlkLe.refl _) ?_ | refine OwnE.cons rfl BlkLe.zero ?_))⟩
  · rw [mlt_no hd, Nat.add_zero] at k4
    repeat' (conv => whnf
             first
               | (refine Ob.mk (by (first | omega | (simp only [InK]; omega) | exact ⟨by omega, tdivIn (by omega) (by omega)⟩ | exact ⟨by first | omega | (simp only [InK]; omega), by first | omega | (simp only [InK]; omega)⟩)) ?_)
               | (refine Cases.yes (by (first | assumption | exact decide_eq_true (by first | assumption | omega) | exact congrArg (!·) (decide_eq_false (by first | assumption | omega)) | exact congrArg (!·) (show _ = false by assumption) | rfl)) ?_)
               | (refine Cases.no (by (first | assumption | exact decide_eq_false (by first | assumption | omega) | exact congrArg (!·) (decide_eq_true (by first | assumption | omega)) | exact congrArg (!·) (show _ = true by assumption) | rfl)) ?_)
               | (refine Idx.mk ⟨_, rfl, by first | assumption | omega, ?_⟩)
               | (refine Idx.mk ⟨0, rfl, by omega, ?_⟩)
               | (refine DrawOb.start ?_)
               | (refine TryF.fast rfl (by decide +kernel) (by kernel_rfl) ?_)
               | (refine TryF.next rfl ?_)
               | (refine TryF.other ?_)
               | (refine TryG.go rfl (by decide +kernel) (by kernel_rfl) ?_)
               | (refine TryG.next rfl ?_))
    refine ⟨⟨_, _, rfl, rfl, AvLe.int ?_⟩⟩
    omega
theorem pow_part {P K j : Nat} (hP : 1 ≤ P) (hj : j ≤ K) (hb : P ^ K ≤ 1000000) : 1 ≤ P ^ j ∧ P ^ j ≤ 1000000 :=
  ⟨Nat.pow_pos hP, Nat.le_trans (Nat.pow_le_pow_right hP hj) hb⟩
theorem pow_sp (P K r : Nat) (hr : Hid (r = P ^ K)) (hP : 1 ≤ P) (hP2 : P ≤ 1000000) (hK : K ≤ 1000000) (hb : r ≤ 1000000) : Sp CX 76 [int .i64 P, int .i64 K] (int .i64 r) := by
  have hr := hr.out
  subst hr
  refine fn_spec (C := CX) ⟨14, [], []⟩ [] tysX_ok mixed Tryd.func76 rfl (by kernel_rfl) Tryd.ntmps76 (by kernel_rfl) rfl ?_
  repeat' (conv => whnf
           first
             | (refine Ob.mk (by (first | omega | (simp only [InK]; omega) | exact ⟨by omega, tdivIn (by omega) (by omega)⟩ | exact ⟨by first | omega | (simp only [InK]; omega), by first | omega | (simp only [InK]; omega)⟩)) ?_)
             | (refine Cases.yes (by (first | assumption | exact decide_eq_true (by first | assumption | omega) | exact congrArg (!·) (decide_eq_false (by first | assumption | omega)) | exact congrArg (!·) (show _ = false by assumption) | rfl)) ?_)
             | (refine Cases.no (by (first | assumption | exact decide_eq_false (by first | assumption | omega) | exact congrArg (!·) (decide_eq_true (by first | assumption | omega)) | exact congrArg (!·) (show _ = true by assumption) | rfl)) ?_)
             | (refine Idx.mk ⟨_, rfl, by first | assumption | omega, ?_⟩)
             | (refine Idx.mk ⟨0, rfl, by omega, ?_⟩)
             | (refine DrawOb.start ?_)
             | (refine TryF.fast rfl (by decide +kernel) (by kernel_rfl) ?_)
             | (refine TryF.next rfl ?_)
             | (refine TryF.other ?_)
             | (refine TryG.go rfl (by decide +kernel) (by kernel_rfl) ?_)
             | (refine TryG.next rfl ?_))
  refine ⟨⟨Nat × Nat, fun (i, q) => ⟨[(0, int .i64 P), (5, int .i64 q), (6, int .i64 K), (7, int .i64 i)], [], 0⟩, fun (i, q) => i ≤ K ∧ q = P ^ i, fun (i, _) => K - i, ⟨(0, 1), [], ⟨Nat.zero_le _, rfl⟩, (by refine ⟨?_, ?_, rfl⟩ <;> repeat (first | exact TmE.nil | exact OwnE.nil | refine TmE.cons (by first | exact AvLe.refl _ | exact AvLe.int (by omega) | exact AvLe.bool (by first | rfl | assumption)) ?_ | refine OwnE.cons rfl (BlkLe.refl _) ?_ | refine OwnE.cons rfl BlkLe.zero ?_))⟩, ?_⟩⟩
  rintro ⟨i, q⟩ ⟨k1, k2⟩
  by_cases hd : i < K
  · have h1 := pow_part hP (Nat.le_of_lt hd) hb
    have h2 := pow_part hP (show i + 1 ≤ K from hd) hb
    rw [Nat.pow_succ, ← k2] at h2
    rw [← k2] at h1
    have hq1 : ((q * P : Nat) : Int) ≤ 1000000 := by omega
    rw [Int.natCast_mul] at hq1
    have hq0 : 0 ≤ ((q * P : Nat) : Int) := Int.natCast_nonneg _
    rw [Int.natCast_mul] at hq0
    repeat' (conv => whnf
             first
               | (refine Ob.mk (by (first | omega | (simp only [InK]; omega) | exact ⟨by omega, tdivIn (by omega) (by omega)⟩ | exact ⟨by first | omega | (simp only [InK]; omega), by first | omega | (simp only [InK]; omega)⟩)) ?_)
               | (refine Cases.yes (by (first | assumption | exact decide_eq_true (by first | assumption | omega) | exact congrArg (!·) (decide_eq_false (by first | assumption | omega)) | exact congrArg (!·) (show _ = false by assumption) | rfl)) ?_)
               | (refine Cases.no (by (first | assumption | exact decide_eq_false (by first | assumption | omega) | exact congrArg (!·) (decide_eq_true (by first | assumption | omega)) | exact congrArg (!·) (show _ = true by assumption) | rfl)) ?_)
               | (refine Idx.mk ⟨_, rfl, by first | assumption | omega, ?_⟩)
               | (refine Idx.mk ⟨0, rfl, by omega, ?_⟩)
               | (refine DrawOb.start ?_)
               | (refine TryF.fast rfl (by decide +kernel) (by kernel_rfl) ?_)
               | (refine TryF.next rfl ?_)
               | (refine TryF.other ?_)
               | (refine TryG.go rfl (by decide +kernel) (by kernel_rfl) ?_)
               | (refine TryG.next rfl ?_))
    exact ⟨(i + 1, q * P), [], ⟨hd, by rw [k2, Nat.pow_succ]⟩, by show K - (i + 1) < K - i; omega, (by refine ⟨?_, ?_, rfl⟩ <;> repeat (first | exact TmE.nil | exact OwnE.nil | refine TmE.cons (by first | exact AvLe.refl _ | exact AvLe.int (by omega) | exact AvLe.bool (by first | rfl | assumption)) ?_ | refine OwnE.cons rfl (BlkLe.refl _) ?_ | refine OwnE.cons rfl BlkLe.zero ?_))⟩
  · obtain rfl : i = K := by omega
    repeat' (conv => whnf
             first
               | (refine Ob.mk (by (first | omega | (simp only [InK]; omega) | exact ⟨by omega, tdivIn (by omega) (by omega)⟩ | exact ⟨by first | omega | (simp only [InK]; omega), by first | omega | (simp only [InK]; omega)⟩)) ?_)
               | (refine Cases.yes (by (first | assumption | exact decide_eq_true (by first | assumption | omega) | exact congrArg (!·) (decide_eq_false (by first | assumption | omega)) | exact congrArg (!·) (show _ = false by assumption) | rfl)) ?_)
               | (refine Cases.no (by (first | assumption | exact decide_eq_false (by first | assumption | omega) | exact congrArg (!·) (decide_eq_true (by first | assumption | omega)) | exact congrArg (!·) (show _ = true by assumption) | rfl)) ?_)
               | (refine Idx.mk ⟨_, rfl, by first | assumption | omega, ?_⟩)
               | (refine Idx.mk ⟨0, rfl, by omega, ?_⟩)
               | (refine DrawOb.start ?_)
               | (refine TryF.fast rfl (by decide +kernel) (by kernel_rfl) ?_)
               | (refine TryF.next rfl ?_)
               | (refine TryF.other ?_)
               | (refine TryG.go rfl (by decide +kernel) (by kernel_rfl) ?_)
               | (refine TryG.next rfl ?_))
    refine ⟨⟨_, _, rfl, rfl, AvLe.int ?_⟩⟩
    rw [k2]
theorem rpow_sp (P K r : Nat) (hr : Hid (r = P ^ K)) (hP : 1 ≤ P) (hP2 : P ≤ 1000000) (hK : K ≤ 1000000) (hb : r ≤ 1000000) : Sp CX 68 [int .i64 P, int .i64 K] (int .i64 r) := by
  have hr := hr.out
  subst hr
  refine fn_spec (C := CX) ⟨14, [], []⟩ [] tysX_ok mixed Tryd.func68 rfl (by kernel_rfl) Tryd.ntmps68 (by kernel_rfl) rfl ?_
  repeat' (conv => whnf
           first
             | (refine Ob.mk (by (first | omega | (simp only [InK]; omega) | exact ⟨by omega, tdivIn (by omega) (by omega)⟩ | exact ⟨by first | omega | (simp only [InK]; omega), by first | omega | (simp only [InK]; omega)⟩)) ?_)
             | (refine Cases.yes (by (first | assumption | exact decide_eq_true (by first | assumption | omega) | exact congrArg (!·) (decide_eq_false (by first | assumption | omega)) | exact congrArg (!·) (show _ = false by assumption) | rfl)) ?_)
             | (refine Cases.no (by (first | assumption | exact decide_eq_false (by first | assumption | omega) | exact congrArg (!·) (decide_eq_true (by first | assumption | omega)) | exact congrArg (!·) (show _ = true by assumption) | rfl)) ?_)
             | (refine Idx.mk ⟨_, rfl, by first | assumption | omega, ?_⟩)
             | (refine Idx.mk ⟨0, rfl, by omega, ?_⟩)
             | (refine DrawOb.start ?_)
             | (refine TryF.fast rfl (by decide +kernel) (by kernel_rfl) ?_)
             | (refine TryF.next rfl ?_)
             | (refine TryF.other ?_)
             | (refine TryG.go rfl (by decide +kernel) (by kernel_rfl) ?_)
             | (refine TryG.next rfl ?_))
  refine ⟨⟨Nat × Nat, fun (m, q) => ⟨[(0, int .i64 P), (1, int .i64 m), (5, int .i64 q)], [], 0⟩, fun (m, q) => m ≤ K ∧ q = P ^ (K - m), fun (m, _) => m, ⟨(K, 1), [], ⟨Nat.le_refl _, by rw [Nat.sub_self, Nat.pow_zero]⟩, (by refine ⟨?_, ?_, rfl⟩ <;> repeat (first | exact TmE.nil | exact OwnE.nil | refine TmE.cons (by first | exact AvLe.refl _ | exact AvLe.int (by omega) | exact AvLe.bool (by first | rfl | assumption)) ?_ | refine OwnE.cons rfl (BlkLe.refl _) ?_ | refine OwnE.cons rfl BlkLe.zero ?_))⟩, ?_⟩⟩
  rintro ⟨m, q⟩ ⟨k1, k2⟩
  by_cases hd : 0 < m
  · have h1 := pow_part hP (show K - m ≤ K by omega) hb
    have h2 := pow_part hP (show K - (m - 1) ≤ K by omega) hb
    have e1 : P ^ (K - (m - 1)) = q * P := by rw [k2, ← Nat.pow_succ]; congr 1; omega
    rw [e1] at h2
    rw [← k2] at h1
    have hq1 : ((q * P : Nat) : Int) ≤ 1000000 := by omega
    rw [Int.natCast_mul] at hq1
    have hq0 : 0 ≤ ((q * P : Nat) : Int) := Int.natCast_nonneg _
    rw [Int.natCast_mul] at hq0
    repeat' (conv => whnf
             first
               | (refine Ob.mk (by (first | omega | (simp only [InK]; omega) | exact ⟨by omega, tdivIn (by omega) (by omega)⟩ | exact ⟨by first | omega | (simp only [InK]; omega), by first | omega | (simp only [InK]; omega)⟩)) ?_)
               | (refine Cases.yes (by (first | assumption | exact decide_eq_true (by first | assumption | omega) | exact congrArg (!·) (decide_eq_false (by first | assumption | omega)) | exact congrArg (!·) (show _ = false by assumption) | rfl)) ?_)
               | (refine Cases.no (by (first | assumption | exact decide_eq_false (by first | assumption | omega) | exact congrArg (!·) (decide_eq_true (by first | assumption | omega)) | exact congrArg (!·) (show _ = true by assumption) | rfl)) ?_)
               | (refine Idx.mk ⟨_, rfl, by first | assumption | omega, ?_⟩)
               | (refine Idx.mk ⟨0, rfl, by omega, ?_⟩)
               | (refine DrawOb.start ?_)
               | (refine TryF.fast rfl (by decide +kernel) (by kernel_rfl) ?_)
               | (refine TryF.next rfl ?_)
               | (refine TryF.other ?_)
               | (refine TryG.go rfl (by decide +kernel) (by kernel_rfl) ?_)
               | (refine TryG.next rfl ?_))
    exact ⟨(m - 1, q * P), [], ⟨by omega, e1.symm⟩, by show m - 1 < m; omega, (by refine ⟨?_, ?_, rfl⟩ <;> repeat (first | exact TmE.nil | exact OwnE.nil | refine TmE.cons (by first | exact AvLe.refl _ | exact AvLe.int (by omega) | exact AvLe.bool (by first | rfl | assumption)) ?_ | refine OwnE.cons rfl (BlkLe.refl _) ?_ | refine OwnE.cons rfl BlkLe.zero ?_))⟩
  · obtain rfl : m = 0 := by omega
    repeat' (conv => whnf
             first
               | (refine Ob.mk (by (first | omega | (simp only [InK]; omega) | exact ⟨by omega, tdivIn (by omega) (by omega)⟩ | exact ⟨by first | omega | (simp only [InK]; omega), by first | omega | (simp only [InK]; omega)⟩)) ?_)
               | (refine Cases.yes (by (first | assumption | exact decide_eq_true (by first | assumption | omega) | exact congrArg (!·) (decide_eq_false (by first | assumption | omega)) | exact congrArg (!·) (show _ = false by assumption) | rfl)) ?_)
               | (refine Cases.no (by (first | assumption | exact decide_eq_false (by first | assumption | omega) | exact congrArg (!·) (decide_eq_true (by first | assumption | omega)) | exact congrArg (!·) (show _ = true by assumption) | rfl)) ?_)
               | (refine Idx.mk ⟨_, rfl, by first | assumption | omega, ?_⟩)
               | (refine Idx.mk ⟨0, rfl, by omega, ?_⟩)
               | (refine DrawOb.start ?_)
               | (refine TryF.fast rfl (by decide +kernel) (by kernel_rfl) ?_)
               | (refine TryF.next rfl ?_)
               | (refine TryF.other ?_)
               | (refine TryG.go rfl (by decide +kernel) (by kernel_rfl) ?_)
               | (refine TryG.next rfl ?_))
    refine ⟨⟨_, _, rfl, rfl, AvLe.int ?_⟩⟩
    rw [k2, Nat.sub_zero]
/-- a space, as a value -/
def spA (n f k a b : Int) : AV := .v (.agg [ix n, ix f, ix k, ix a, ix b])
theorem exc_sp (n f k a b : Int) : Sp CX 62 [spA n f k a b] (int .i64 (if k = 2 ∧ f = 1 then 1 else 0)) := by
  refine fn_spec (C := CX) ⟨11, [], []⟩ [] tysX_ok mixed Tryd.func62 rfl (by kernel_rfl) Tryd.ntmps62 (by kernel_rfl) rfl ?_
  by_cases h1 : k = 2
  · by_cases h2 : f = 1
    · repeat' (conv => whnf
               first
                 | (refine Ob.mk (by (first | omega | (simp only [InK]; omega) | exact ⟨by omega, tdivIn (by omega) (by omega)⟩ | exact ⟨by first | omega | (simp only [InK]; omega), by first | omega | (simp only [InK]; omega)⟩)) ?_)
                 | (refine Cases.yes (by (first | assumption | exact decide_eq_true (by first | assumption | omega) | exact congrArg (!·) (decide_eq_false (by first | assumption | omega)) | exact congrArg (!·) (show _ = false by assumption) | rfl)) ?_)
                 | (refine Cases.no (by (first | assumption | exact decide_eq_false (by first | assumption | omega) | exact congrArg (!·) (decide_eq_true (by first | assumption | omega)) | exact congrArg (!·) (show _ = true by assumption) | rfl)) ?_)
                 | (refine Idx.mk ⟨_, rfl, by first | assumption | omega, ?_⟩)
                 | (refine Idx.mk ⟨0, rfl, by omega, ?_⟩)
                 | (refine DrawOb.start ?_)
                 | (refine TryF.fast rfl (by decide +kernel) (by kernel_rfl) ?_)
                 | (refine TryF.next rfl ?_)
                 | (refine TryF.other ?_)
                 | (refine TryG.go rfl (by decide +kernel) (by kernel_rfl) ?_)
                 | (refine TryG.next rfl ?_))
      refine ⟨⟨_, _, rfl, rfl, AvLe.int ?_⟩⟩
      rw [if_pos ⟨h1, h2⟩]
    · repeat' (conv => whnf
               first
                 | (refine Ob.mk (by (first | omega | (simp only [InK]; omega) | exact ⟨by omega, tdivIn (by omega) (by omega)⟩ | exact ⟨by first | omega | (simp only [InK]; omega), by first | omega | (simp only [InK]; omega)⟩)) ?_)
                 | (refine Cases.yes (by (first | assumption | exact decide_eq_true (by first | assumption | omega) | exact congrArg (!·) (decide_eq_false (by first | assumption | omega)) | exact congrArg (!·) (show _ = false by assumption) | rfl)) ?_)
                 | (refine Cases.no (by (first | assumption | exact decide_eq_false (by first | assumption | omega) | exact congrArg (!·) (decide_eq_true (by first | assumption | omega)) | exact congrArg (!·) (show _ = true by assumption) | rfl)) ?_)
                 | (refine Idx.mk ⟨_, rfl, by first | assumption | omega, ?_⟩)
                 | (refine Idx.mk ⟨0, rfl, by omega, ?_⟩)
                 | (refine DrawOb.start ?_)
                 | (refine TryF.fast rfl (by decide +kernel) (by kernel_rfl) ?_)
                 | (refine TryF.next rfl ?_)
                 | (refine TryF.other ?_)
                 | (refine TryG.go rfl (by decide +kernel) (by kernel_rfl) ?_)
                 | (refine TryG.next rfl ?_))
      refine ⟨⟨_, _, rfl, rfl, AvLe.int ?_⟩⟩
      rw [if_neg fun h => h2 h.2]
  · repeat' (conv => whnf
             first
               | (refine Ob.mk (by (first | omega | (simp only [InK]; omega) | exact ⟨by omega, tdivIn (by omega) (by omega)⟩ | exact ⟨by first | omega | (simp only [InK]; omega), by first | omega | (simp only [InK]; omega)⟩)) ?_)
               | (refine Cases.yes (by (first | assumption | exact decide_eq_true (by first | assumption | omega) | exact congrArg (!·) (decide_eq_false (by first | assumption | omega)) | exact congrArg (!·) (show _ = false by assumption) | rfl)) ?_)
               | (refine Cases.no (by (first | assumption | exact decide_eq_false (by first | assumption | omega) | exact congrArg (!·) (decide_eq_true (by first | assumption | omega)) | exact congrArg (!·) (show _ = true by assumption) | rfl)) ?_)
               | (refine Idx.mk ⟨_, rfl, by first | assumption | omega, ?_⟩)
               | (refine Idx.mk ⟨0, rfl, by omega, ?_⟩)
               | (refine DrawOb.start ?_)
               | (refine TryF.fast rfl (by decide +kernel) (by kernel_rfl) ?_)
               | (refine TryF.next rfl ?_)
               | (refine TryF.other ?_)
               | (refine TryG.go rfl (by decide +kernel) (by kernel_rfl) ?_)
               | (refine TryG.next rfl ?_))
    refine ⟨⟨_, _, rfl, rfl, AvLe.int ?_⟩⟩
    rw [if_neg fun h => h1 h.1]
set_option maxRecDepth 20000 in
set_option maxHeartbeats 4000000 in
theorem lam_sp (n f : Nat) (k a b : Int) (hn0 : 1 ≤ n) (hn : n ≤ 1000) (hf0 : 1 ≤ f) (hf : f ≤ 1000) (hfn : f ∣ n) : Sp CX 61 [spA n f k a b] (int .i64 (lam f n)) := by
  obtain ⟨Z, len, hZ, hlen⟩ := zOf (facs n) (0, 0)
  have hll : len ≤ 1000 := by have := facs_len (n := n) (by omega); omega
  have hnn : (n : Int) * n ≤ 1000000 := Int.mul_le_mul (c := 1000) (d := 1000) (by omega) (by omega) (by omega) (by omega)
  refine fn_spec (C := CX) ⟨71, [], []⟩ [] tysX_ok mixed Tryd.func61 rfl (by kernel_rfl) Tryd.ntmps61 (by kernel_rfl) rfl ?_
  repeat' (conv => whnf
           first
             | (refine Ob.mk (by (first | omega | (simp only [InK]; omega) | exact ⟨by omega, tdivIn (by omega) (by omega)⟩ | exact ⟨by first | omega | (simp only [InK]; omega), by first | omega | (simp only [InK]; omega)⟩)) ?_)
             | (refine Cases.yes (by (first | assumption | exact decide_eq_true (by first | assumption | omega) | exact congrArg (!·) (decide_eq_false (by first | assumption | omega)) | exact congrArg (!·) (show _ = false by assumption) | rfl)) ?_)
             | (refine Cases.no (by (first | assumption | exact decide_eq_false (by first | assumption | omega) | exact congrArg (!·) (decide_eq_true (by first | assumption | omega)) | exact congrArg (!·) (show _ = true by assumption) | rfl)) ?_)
             | (refine Idx.mk ⟨_, rfl, by first | assumption | omega, ?_⟩)
             | (refine Idx.mk ⟨0, rfl, by omega, ?_⟩)
             | (refine DrawOb.start ?_)
             | (refine TryF.fast rfl (by decide +kernel) (by kernel_rfl) ?_)
             | (refine TryF.next rfl ?_)
             | (refine TryF.other ?_)
             | (refine TryG.go rfl (by decide +kernel) (by kernel_rfl) ?_)
             | (refine TryG.next rfl ?_)
             | (refine Sp.call (factor_sp n Z len (fun i p e => hZ i (p, e)) hlen (by omega) (by omega)) (ArgsLe.refl _) rfl (AvLe.refl _) ?_))
  refine ⟨⟨Nat, fun i => ⟨[(1, .v (.c (.loc 0 0))), (3, int .i64 (prodL (lamF f) ((facs n).take i))), (17, .v (.c (.sl 2 (Nat × Nat) ppL Z len))), (18, int .i64 len), (19, int .i64 i)], [(0, .st [ix n, ix f, ix k, ix a, ix b])], 1⟩, fun i => i ≤ len, fun i => len - i, ⟨0, [], Nat.zero_le _, (by refine ⟨?_, ?_, rfl⟩ <;> repeat (first | exact TmE.nil | exact OwnE.nil | refine TmE.cons (by first | exact AvLe.refl _ | exact AvLe.int (by omega) | exact AvLe.bool (by first | rfl | assumption)) ?_ | refine OwnE.cons rfl (BlkLe.refl _) ?_ | refine OwnE.cons rfl BlkLe.zero ?_))⟩, ?_⟩⟩
  intro i hi
  by_cases hd : i < len
  · have hfi : (facs n)[i]? = some ((Z i).1, (Z i).2) := by
      have h := List.getElem?_eq_getElem (l := facs n) (i := i) (by omega)
      rw [h, hZ i _ h]
    obtain ⟨m1, m2, m3, m4, m5, m6, m7⟩ := facs_bounds (by omega) (List.mem_of_getElem? hfi)
    have hbd := lam_pre f (n := n) (by omega) (i + 1)
    have hst := prodL_next (lamF f) hfi
    rw [hst] at hbd
    have hb0 := lam_pre f (n := n) (by omega) i
    have hpw : ∀ q, q ≤ (Z i).2 → (Z i).1 ^ q ≤ 1000000 := fun q hq => by
      have := Nat.pow_le_pow_right (show 0 < (Z i).1 by omega) hq
      omega
    have e1 : ((Z i).2 : Int).tdiv 2 = (((Z i).2 / 2 : Nat) : Int) := (Int.ofNat_tdiv _ 2).symm
    have e2 : ((Z i).2 : Int).tmod 2 = (((Z i).2 % 2 : Nat) : Int) := (Int.ofNat_tmod _ 2).symm
    have e3 : (((Z i).2 : Int) - 1).tdiv 2 = ((((Z i).2 - 1) / 2 : Nat) : Int) := by rw [show ((Z i).2 : Int) - 1 = (((Z i).2 - 1 : Nat) : Int) by omega]; exact (Int.ofNat_tdiv _ 2).symm
    have hcle : mlt (Z i).1 f ≤ (Z i).2 := by
      apply Nat.le_of_not_lt
      intro h
      have h1 := (facs_iff (by omega) _ _).1 (List.mem_of_getElem? hfi)
      exact h1.2.2.2 (Nat.dvd_trans (Nat.pow_dvd_pow _ h) (Nat.dvd_trans (mlt_dvd (Z i).1 f) hfn))
    by_cases c1 : (Z i).2 < 2 * mlt (Z i).1 f
    · have p1 := hpw ((Z i).2 - mlt (Z i).1 f) (by omega)
      obtain ⟨r, hr⟩ : ∃ r, r = (Z i).1 ^ ((Z i).2 - mlt (Z i).1 f) := ⟨_, rfl⟩
      have el : lamF f (Z i).1 (Z i).2 = 2 * (r : Int) := by unfold lamF; rw [if_pos c1, Int.natCast_mul, hr]; rfl
      rw [el] at hbd hst
      rw [← hr] at p1
      have HR := Lib.hid hr
      clear hr hpw el m6 m7
      repeat' (conv => whnf
               first
                 | (refine Ob.mk (by (first | omega | (simp only [InK]; omega) | exact ⟨by omega, tdivIn (by omega) (by omega)⟩ | exact ⟨by first | omega | (simp only [InK]; omega), by first | omega | (simp only [InK]; omega)⟩)) ?_)
                 | (refine Cases.yes (by (first | assumption | exact decide_eq_true (by first | assumption | omega) | exact congrArg (!·) (decide_eq_false (by first | assumption | omega)) | exact congrArg (!·) (show _ = false by assumption) | rfl)) ?_)
                 | (refine Cases.no (by (first | assumption | exact decide_eq_false (by first | assumption | omega) | exact congrArg (!·) (decide_eq_true (by first | assumption | omega)) | exact congrArg (!·) (show _ = true by assumption) | rfl)) ?_)
                 | (refine Idx.mk ⟨_, rfl, by first | assumption | omega, ?_⟩)
                 | (refine Idx.mk ⟨0, rfl, by omega, ?_⟩)
                 | (refine DrawOb.start ?_)
                 | (refine TryF.fast rfl (by decide +kernel) (by kernel_rfl) ?_)
                 | (refine TryF.next rfl ?_)
                 | (refine TryF.other ?_)
                 | (refine TryG.go rfl (by decide +kernel) (by kernel_rfl) ?_)
                 | (refine TryG.next rfl ?_)
                 | (refine Sp.call (exp_sp f (Z i).1 (by omega) (by omega) (by omega) (by omega)) (ArgsLe.refl _) rfl (AvLe.refl _) ?_)
                 | (refine Sp.call (pow_sp (Z i).1 ((Z i).2 - mlt (Z i).1 f) r HR (by omega) (by omega) (by omega) (by assumption)) (.cons (.refl _) (.cons (AvLe.int (by omega)) .nil)) rfl (AvLe.refl _) ?_))
      exact ⟨i + 1, [], hd, by show len - (i + 1) < len - i; omega, (by refine ⟨?_, ?_, rfl⟩ <;> repeat (first | exact TmE.nil | exact OwnE.nil | refine TmE.cons (by first | exact AvLe.refl _ | exact AvLe.int (by omega) | exact AvLe.bool (by first | rfl | assumption)) ?_ | refine OwnE.cons rfl (BlkLe.refl _) ?_ | refine OwnE.cons rfl BlkLe.zero ?_))⟩
    · by_cases c2 : (Z i).2 % 2 = 0
      · have p1 := hpw ((Z i).2 / 2) (by omega)
        have p2 := hpw ((Z i).2 / 2 - 1) (by omega)
        have hpe : 1 ≤ (Z i).2 / 2 := by omega
        obtain ⟨r, hr⟩ : ∃ r, r = (Z i).1 ^ ((Z i).2 / 2) := ⟨_, rfl⟩
        obtain ⟨s, hs⟩ : ∃ s, s = (Z i).1 ^ ((Z i).2 / 2 - 1) := ⟨_, rfl⟩
        have el : lamF f (Z i).1 (Z i).2 = (r : Int) + (s : Int) := by unfold lamF; rw [if_neg c1, if_pos c2, Int.natCast_add, hr, hs]
        rw [el] at hbd hst
        rw [← hr] at p1
        rw [← hs] at p2
        have HR := Lib.hid hr
        have HS := Lib.hid hs
        clear hr hs hpw el m6 m7
        repeat' (conv => whnf
                 first
                   | (refine Ob.mk (by (first | omega | (simp only [InK]; omega) | exact ⟨by omega, tdivIn (by omega) (by omega)⟩ | exact ⟨by first | omega | (simp only [InK]; omega), by first | omega | (simp only [InK]; omega)⟩)) ?_)
                   | (refine Cases.yes (by (first | assumption | exact decide_eq_true (by first | assumption | omega) | exact congrArg (!·) (decide_eq_false (by first | assumption | omega)) | exact congrArg (!·) (show _ = false by assumption) | rfl)) ?_)
                   | (refine Cases.no (by (first | assumption | exact decide_eq_false (by first | assumption | omega) | exact congrArg (!·) (decide_eq_true (by first | assumption | omega)) | exact congrArg (!·) (show _ = true by assumption) | rfl)) ?_)
                   | (refine Idx.mk ⟨_, rfl, by first | assumption | omega, ?_⟩)
                   | (refine Idx.mk ⟨0, rfl, by omega, ?_⟩)
                   | (refine DrawOb.start ?_)
                   | (refine TryF.fast rfl (by decide +kernel) (by kernel_rfl) ?_)
                   | (refine TryF.next rfl ?_)
                   | (refine TryF.other ?_)
                   | (refine TryG.go rfl (by decide +kernel) (by kernel_rfl) ?_)
                   | (refine TryG.next rfl ?_)
                   | (refine Sp.call (exp_sp f (Z i).1 (by omega) (by omega) (by omega) (by omega)) (ArgsLe.refl _) rfl (AvLe.refl _) ?_)
                   | (refine Sp.call (pow_sp (Z i).1 ((Z i).2 / 2) r HR (by omega) (by omega) (by omega) (by assumption)) (.cons (.refl _) (.cons (AvLe.int (by first | assumption | omega)) .nil)) rfl (AvLe.refl _) ?_)
                   | (refine Sp.call (pow_sp (Z i).1 ((Z i).2 / 2 - 1) s HS (by omega) (by omega) (by omega) (by assumption)) (.cons (.refl _) (.cons (AvLe.int (by omega)) .nil)) rfl (AvLe.refl _) ?_))
        exact ⟨i + 1, [], hd, by show len - (i + 1) < len - i; omega, (by refine ⟨?_, ?_, rfl⟩ <;> repeat (first | exact TmE.nil | exact OwnE.nil | refine TmE.cons (by first | exact AvLe.refl _ | exact AvLe.int (by omega) | exact AvLe.bool (by first | rfl | assumption)) ?_ | refine OwnE.cons rfl (BlkLe.refl _) ?_ | refine OwnE.cons rfl BlkLe.zero ?_))⟩
      · have p1 := hpw (((Z i).2 - 1) / 2) (by omega)
        obtain ⟨r, hr⟩ : ∃ r, r = (Z i).1 ^ (((Z i).2 - 1) / 2) := ⟨_, rfl⟩
        have el : lamF f (Z i).1 (Z i).2 = 2 * (r : Int) := by unfold lamF; rw [if_neg c1, if_neg c2, Int.natCast_mul, hr]; rfl
        rw [el] at hbd hst
        rw [← hr] at p1
        have HR := Lib.hid hr
        clear hr hpw el m6 m7
        repeat' (conv => whnf
                 first
                   | (refine Ob.mk (by (first | omega | (simp only [InK]; omega) | exact ⟨by omega, tdivIn (by omega) (by omega)⟩ | exact ⟨by first | omega | (simp only [InK]; omega), by first | omega | (simp only [InK]; omega)⟩)) ?_)
                   | (refine Cases.yes (by (first | assumption | exact decide_eq_true (by first | assumption | omega) | exact congrArg (!·) (decide_eq_false (by first | assumption | omega)) | exact congrArg (!·) (show _ = false by assumption) | rfl)) ?_)
                   | (refine Cases.no (by (first | assumption | exact decide_eq_false (by first | assumption | omega) | exact congrArg (!·) (decide_eq_true (by first | assumption | omega)) | exact congrArg (!·) (show _ = true by assumption) | rfl)) ?_)
                   | (refine Idx.mk ⟨_, rfl, by first | assumption | omega, ?_⟩)
                   | (refine Idx.mk ⟨0, rfl, by omega, ?_⟩)
                   | (refine DrawOb.start ?_)
                   | (refine TryF.fast rfl (by decide +kernel) (by kernel_rfl) ?_)
                   | (refine TryF.next rfl ?_)
                   | (refine TryF.other ?_)
                   | (refine TryG.go rfl (by decide +kernel) (by kernel_rfl) ?_)
                   | (refine TryG.next rfl ?_)
                   | (refine Sp.call (exp_sp f (Z i).1 (by omega) (by omega) (by omega) (by omega)) (ArgsLe.refl _) rfl (AvLe.refl _) ?_)
                   | (refine Sp.call (pow_sp (Z i).1 (((Z i).2 - 1) / 2) r HR (by omega) (by omega) (by omega) (by assumption)) (.cons (.refl _) (.cons (AvLe.int (by first | assumption | omega)) .nil)) rfl (AvLe.refl _) ?_))
        exact ⟨i + 1, [], hd, by show len - (i + 1) < len - i; omega, (by refine ⟨?_, ?_, rfl⟩ <;> repeat (first | exact TmE.nil | exact OwnE.nil | refine TmE.cons (by first | exact AvLe.refl _ | exact AvLe.int (by omega) | exact AvLe.bool (by first | rfl | assumption)) ?_ | refine OwnE.cons rfl (BlkLe.refl _) ?_ | refine OwnE.cons rfl BlkLe.zero ?_))⟩
  · obtain rfl : i = len := by omega
    repeat' (conv => whnf
             first
               | (refine Ob.mk (by (first | omega | (simp only [InK]; omega) | exact ⟨by omega, tdivIn (by omega) (by omega)⟩ | exact ⟨by first | omega | (simp only [InK]; omega), by first | omega | (simp only [InK]; omega)⟩)) ?_)
               | (refine Cases.yes (by (first | assumption | exact decide_eq_true (by first | assumption | omega) | exact congrArg (!·) (decide_eq_false (by first | assumption | omega)) | exact congrArg (!·) (show _ = false by assumption) | rfl)) ?_)
               | (refine Cases.no (by (first | assumption | exact decide_eq_false (by first | assumption | omega) | exact congrArg (!·) (decide_eq_true (by first | assumption | omega)) | exact congrArg (!·) (show _ = true by assumption) | rfl)) ?_)
               | (refine Idx.mk ⟨_, rfl, by first | assumption | omega, ?_⟩)
               | (refine Idx.mk ⟨0, rfl, by omega, ?_⟩)
               | (refine DrawOb.start ?_)
               | (refine TryF.fast rfl (by decide +kernel) (by kernel_rfl) ?_)
               | (refine TryF.next rfl ?_)
               | (refine TryF.other ?_)
               | (refine TryG.go rfl (by decide +kernel) (by kernel_rfl) ?_)
               | (refine TryG.next rfl ?_))
    refine ⟨⟨_, _, rfl, rfl, AvLe.int ?_⟩⟩
    rw [hlen, List.take_length]
    rfl
end Go.Proofs.YteamlpflgfmieaaDoor

/-! Plain: the factorizations of the numbers up to 120, reckoned by the kernel. -/
namespace HP

def prmC (p : Nat) : Bool := decide (2 ≤ p) && (List.range (p - 2)).all fun d => !(p % (d + 2) == 0)
theorem prmC_prm {p : Nat} (h : prmC p = true) : Prm p := by
  unfold prmC at h
  rw [Bool.and_eq_true, decide_eq_true_iff, List.all_eq_true] at h
  obtain ⟨h1, h2⟩ := h
  refine ⟨h1, fun d hd => ?_⟩
  have hle := Nat.le_of_dvd (by omega) hd
  rcases Nat.lt_trichotomy d 1 with h | h | h
  · have : d = 0 := by omega
    subst this
    have := Nat.eq_zero_of_zero_dvd hd
    omega
  · exact .inl h
  · right
    apply Nat.le_antisymm hle
    apply Nat.le_of_not_lt
    intro hlt
    have := h2 (d - 2) (List.mem_range.2 (by omega))
    rw [show d - 2 + 2 = d by omega, Nat.mod_eq_zero_of_dvd hd] at this
    simp at this
theorem prm_prmC {p : Nat} (h : Prm p) : prmC p = true := by
  unfold prmC
  rw [Bool.and_eq_true, decide_eq_true_iff, List.all_eq_true]
  refine ⟨h.1, fun d hd => ?_⟩
  have hd := List.mem_range.1 hd
  have : ¬ p % (d + 2) = 0 := fun h0 => by
    rcases h.2 _ (Nat.dvd_of_mod_eq_zero h0) with h1 | h1 <;> omega
  simpa using this
theorem prmC_iff {p : Nat} : prmC p = true ↔ Prm p := ⟨prmC_prm, prm_prmC⟩
def mltC (p : Nat) : Nat → Nat → Nat
  | 0, _ => 0
  | f + 1, n => if n % p = 0 then mltC p f (n / p) + 1 else 0
theorem mltC_eq {p : Nat} (hp : 2 ≤ p) : ∀ (f n : Nat), 0 < n → n ≤ f → mltC p f n = mlt p n
  | 0, n, h0, h => absurd h (by omega)
  | f + 1, n, h0, h => by
    rw [mltC]
    split
    · next hm =>
      have hd : 0 < n / p := Nat.div_pos (Nat.le_of_dvd h0 (Nat.dvd_of_mod_eq_zero hm)) (by omega)
      have hl : n / p < n := Nat.div_lt_self h0 (by omega)
      rw [mltC_eq hp f _ hd (by omega), mlt_yes hp h0 hm, Nat.add_comm]
    · next hm => rw [mlt_no hm]
def facA : Nat → Nat → Nat → List (Nat × Nat)
  | 0, _, _ => []
  | f + 1, p, n => if n < 2 then [] else if n % p = 0 then (p, mltC p 7 n) :: facA f (p + 1) (n / p ^ mltC p 7 n) else facA f (p + 1) n
def facC (n : Nat) : List (Nat × Nat) := facA n 2 n
def ascC : Nat → List (Nat × Nat) → Bool
  | _, [] => true
  | b, (p, e) :: l => decide (b < p) && prmC p && decide (0 < e) && ascC p l
theorem ascC_asc : ∀ {b : Nat} {l : List (Nat × Nat)}, ascC b l = true → Asc b l
  | _, [], _ => trivial
  | b, (p, e) :: l, h => by
    unfold ascC at h
    rw [Bool.and_eq_true, Bool.and_eq_true, Bool.and_eq_true, decide_eq_true_iff, decide_eq_true_iff] at h
    exact ⟨h.1.1.1, prmC_prm h.1.1.2, h.1.2, ascC_asc h.2⟩
/-- a fact for all numbers below n, to be reckoned -/
def allB (n : Nat) (f : Nat → Bool) : Bool := (List.range n).all f
theorem allB_at {n : Nat} {f : Nat → Bool} (h : allB n f = true) {i : Nat} (hi : i < n) : f i = true := by
  unfold allB at h
  rw [List.all_eq_true] at h
  exact h i (List.mem_range.2 hi)
theorem fac_all : allB 121 (fun n => decide (n = 0) || (ascC 1 (facC n) && (natL (facC n) == n))) = true := by decide +kernel
theorem facs_C {n : Nat} (h1 : 1 ≤ n) (h2 : n ≤ 120) : facs n = facC n := by
  have h := allB_at fac_all (show n < 121 by omega)
  rw [Bool.or_eq_true, decide_eq_true_iff, Bool.and_eq_true, beq_iff_eq] at h
  rcases h with h | ⟨ha, hb⟩
  · omega
  · have := facs_of _ (ascC_asc ha)
    rwa [hb] at this
def prodC (f : Nat → Nat → Int) (n : Nat) : Int := prodL f (facC n)
theorem psi_C {n : Nat} (h1 : 1 ≤ n) (h2 : n ≤ 120) : psi n = prodC psiF n := by unfold psi prodC; rw [facs_C h1 h2]
theorem phi_C {n : Nat} (h1 : 1 ≤ n) (h2 : n ≤ 120) : phi n = prodC phiF n := by unfold phi prodC; rw [facs_C h1 h2]
theorem bet_C {n : Nat} (h1 : 1 ≤ n) (h2 : n ≤ 120) : bet n = prodC betF n := by unfold bet prodC; rw [facs_C h1 h2]
/-- the factor of lambda with the exponent reckoned -/
def lamG (f p e : Nat) : Int := if e < 2 * mltC p f f then ((2 * p ^ (e - mltC p f f) : Nat) : Int) else if e % 2 = 0 then ((p ^ (e / 2) + p ^ (e / 2 - 1) : Nat) : Int) else ((2 * p ^ ((e - 1) / 2) : Nat) : Int)
theorem lam_C {f n : Nat} (hf : 0 < f) (h1 : 1 ≤ n) (h2 : n ≤ 120) : lam f n = prodC (lamG f) n := by
  unfold lam prodC
  rw [← facs_C h1 h2]
  refine prodL_congr _ fun x hx => ?_
  have := (facs_mem (by omega) x hx).1.1
  unfold lamG lamF
  rw [mltC_eq this f f hf (Nat.le_refl _)]
end HP

/- States in letters: residues, greatest common divisors, Psi and lambda of the reference, the cusp forms' formula. -/
namespace Go.Proofs.YteamlpflgfmieaaDoor
open Go Go.RowKit Go.VG HP
theorem mod_sp (a m : Int) (ha : -4611686018427387904 ≤ a) (ha2 : a ≤ 4611686018427387904) (hm : 0 < m) (hm2 : m ≤ 2147483648) : Sp CX 50 [int .i64 a, int .i64 m] (int .i64 (a % m)) := by
  refine fn_spec (C := CX) ⟨15, [], []⟩ [] tysX_ok mixed Tryd.func50 rfl (by kernel_rfl) Tryd.ntmps50 (by kernel_rfl) rfl ?_
  have h1 := Int.tmod_eq_emod (a := a) (b := m)
  have h2 := Int.emod_nonneg a (show m ≠ 0 by omega)
  have h3 := Int.emod_lt_of_pos a hm
  have h4 : m.natAbs = m := by omega
  have h5 : a.tmod m = a % m ∨ a.tmod m = a % m - m := by split at h1 <;> omega
  clear h1 h4
  by_cases hc : a.tmod m < 0
  · repeat' (conv => whnf
             first
               | (refine Ob.mk (by (first | omega | (simp only [InK]; omega) | exact ⟨by omega, tdivIn (by omega) (by omega)⟩ | exact ⟨by first | omega | (simp only [InK]; omega), by first | omega | (simp only [InK]; omega)⟩)) ?_)
               | (refine Cases.yes (by (first | assumption | exact decide_eq_true (by first | assumption | omega) | exact congrArg (!·) (decide_eq_false (by first | assumption | omega)) | exact congrArg (!·) (show _ = false by assumption) | rfl)) ?_)
               | (refine Cases.no (by (first | assumption | exact decide_eq_false (by first | assumption | omega) | exact congrArg (!·) (decide_eq_true (by first | assumption | omega)) | exact congrArg (!·) (show _ = true by assumption) | rfl)) ?_)
               | (refine Idx.mk ⟨_, rfl, by first | assumption | omega, ?_⟩)
               | (refine Idx.mk ⟨0, rfl, by omega, ?_⟩)
               | (refine DrawOb.start ?_)
               | (refine TryF.fast rfl (by decide +kernel) (by kernel_rfl) ?_)
               | (refine TryF.next rfl ?_)
               | (refine TryF.other ?_)
               | (refine TryG.go rfl (by decide +kernel) (by kernel_rfl) ?_)
               | (refine TryG.next rfl ?_))
    refine ⟨⟨_, _, rfl, rfl, AvLe.int ?_⟩⟩
    omega
  · repeat' (conv => whnf
             first
               | (refine Ob.mk (by (first | omega | (simp only [InK]; omega) | exact ⟨by omega, tdivIn (by omega) (by omega)⟩ | exact ⟨by first | omega | (simp only [InK]; omega), by first | omega | (simp only [InK]; omega)⟩)) ?_)
               | (refine Cases.yes (by (first | assumption | exact decide_eq_true (by first | assumption | omega) | exact congrArg (!·) (decide_eq_false (by first | assumption | omega)) | exact congrArg (!·) (show _ = false by assumption) | rfl)) ?_)
               | (refine Cases.no (by (first | assumption | exact decide_eq_false (by first | assumption | omega) | exact congrArg (!·) (decide_eq_true (by first | assumption | omega)) | exact congrArg (!·) (show _ = true by assumption) | rfl)) ?_)
               | (refine Idx.mk ⟨_, rfl, by first | assumption | omega, ?_⟩)
               | (refine Idx.mk ⟨0, rfl, by omega, ?_⟩)
               | (refine DrawOb.start ?_)
               | (refine TryF.fast rfl (by decide +kernel) (by kernel_rfl) ?_)
               | (refine TryF.next rfl ?_)
               | (refine TryF.other ?_)
               | (refine TryG.go rfl (by decide +kernel) (by kernel_rfl) ?_)
               | (refine TryG.next rfl ?_))
    refine ⟨⟨_, _, rfl, rfl, AvLe.int ?_⟩⟩
    omega
set_option maxHeartbeats 400000 in
theorem gcd18_any (a b : Int) (w : World) (ha1 : -9223372036854775807 ≤ a) (ha2 : a ≤ 9223372036854775807) (hb1 : -9223372036854775807 ≤ b) (hb2 : b ≤ 9223372036854775807) :
    Calls Tryd.prog 39 #[.int .i64 a, .int .i64 b] w fun e w' => e = .returned (.int .i64 (gcdW a b)) ∧ ∃ m, w' = w.drewN m := by
  go_enter Tryd.func39, Tryd.ntmps39
  go_wp2
  go_loopw [0, 1] (fun x y wr => ∃ (a' b' : Int) (m : Nat), x = .int .i64 a' ∧ y = .int .i64 b' ∧ -9223372036854775807 ≤ a' ∧ a' ≤ 9223372036854775807 ∧ -9223372036854775807 ≤ b' ∧ b' ≤ 9223372036854775807 ∧ Hid (Int.gcd a' b' = Int.gcd a b) ∧ wr = w.drewN m) (fun _ y _ => (intOf y).natAbs)
  case atStart => exact ⟨a, b, 0, rfl, rfl, ha1, ha2, hb1, hb2, rfl, rfl⟩
  case round =>
    obtain ⟨a', b', m, rfl, rfl, h1, h2, h3, h4, hg, rfl⟩ := hrel
    by_cases hb : b' = 0
    · obtain rfl := hb
      have e := gcdW_of hg (by omega) h2
      have E := Lib.hid e
      clear e
      by_cases hn : a' < 0
      · go_wp2
        go_ret
        exact ⟨ret_int (by rw [E.out]; omega), m, rfl⟩
      · go_wp2
        go_ret
        exact ⟨ret_int (by rw [E.out]; omega), m, rfl⟩
    · have ht := tmod_abs_lt a' hb
      go_wp2
      go_quiet (fail)
      go_wp2
      go_roundw
      case rel =>
        exact ⟨b', a'.tmod b', m + nq, rfl, rfl, h3, h4, by omega, by omega, (gcd_tmod a' b').trans hg, by simp⟩
      case measure => simpa [intOf] using ht
theorem gcdW_eq {a b : Int} (h : -9223372036854775807 ≤ a) (h2 : a ≤ 9223372036854775807) (k : -9223372036854775807 ≤ b) (k2 : b ≤ 9223372036854775807) : gcdW a b = (Int.gcd a b : Nat) := by
  unfold gcdW
  rw [if_neg]
  intro hg
  by_cases ha : a = 0
  · subst ha
    rw [Int.gcd_zero_left] at hg
    omega
  · have := Int.gcd_le_natAbs_left (b := b) ha
    omega
theorem gcd18_sp (a b : Int) (ha1 : -9223372036854775807 ≤ a) (ha2 : a ≤ 9223372036854775807) (hb1 : -9223372036854775807 ≤ b) (hb2 : b ≤ 9223372036854775807) : Sp CX 39 [int .i64 a, int .i64 b] (int .i64 (Int.gcd a b : Nat)) :=
  .of_val (vs0 := [.int .i64 a, .int .i64 b]) (callOk Tryd.func39 (by kernel_rfl) (by kernel_rfl)) rfl (fun _ _ _ h => argsX h) (fun _ _ => ⟨rfl, rfl⟩) fun w _ => (gcd18_any a b w ha1 ha2 hb1 hb2).mono fun _ _ ⟨h, m, e⟩ => ⟨by rw [h, gcdW_eq ha1 ha2 hb1 hb2], e ▸ drew_below w m⟩
/-- no divisor from 2 to q - 1 -/
def pq (p q : Nat) : Bool := (List.range (q - 2)).all fun d => !(p % (d + 2) == 0)
theorem pq_succ {p q : Nat} (hq : 2 ≤ q) : pq p (q + 1) = (pq p q && !(p % q == 0)) := by
  unfold pq
  rw [show q + 1 - 2 = (q - 2) + 1 by omega, List.range_succ, List.all_append]
  simp [show q - 2 + 2 = q by omega]
theorem pq_prm {p : Nat} (hp : 2 ≤ p) : pq p p = true ↔ Prm p := by
  rw [← prmC_iff]
  unfold prmC pq
  simp [hp]
theorem pq_next {p q : Nat} {b : Bool} (hq : 2 ≤ q) (h : pq p q = true) : (!decide ((p : Int).tmod q = 0)) = pq p (q + 1) := by
  have e : (p : Int).tmod q = ((p % q : Nat) : Int) := (Int.ofNat_tmod p q).symm
  rw [pq_succ hq, h, e, Bool.true_and]
  congr 1
  rw [Bool.eq_iff_iff, decide_eq_true_iff, beq_iff_eq]
  omega
theorem pq_no {p q : Nat} (hq : 2 ≤ q) (h : pq p q = false) : false = pq p (q + 1) := by
  rw [pq_succ hq, h]; rfl
theorem stpN_psi {n k : Nat} (hn : 0 < n) (hp : Prm k) (hd : k ∣ n) : (stpN psiF n k).tdiv k * ((k : Int) + 1) = stpN psiF n (k + 1) := by
  obtain ⟨h1, h2⟩ := ixN_yes hn hp hd
  obtain ⟨m1, m2, m3, _⟩ := facs_bounds hn (List.mem_of_getElem? h1)
  unfold stpN
  rw [h2]
  exact (stepN_step h1 (by omega) m3 psiF_eq).2
set_option maxHeartbeats 4000000 in
set_option maxRecDepth 20000 in
theorem psi21_sp (n : Nat) (hn0 : 1 ≤ n) (hn : n ≤ 1000) : Sp CX 30 [int .i64 n] (int .i64 (psi n)) := by
  have hbd : ∀ k, 0 ≤ stpN psiF n k ∧ stpN psiF n k ≤ (n : Int) * n := fun k => psiN_bd hn0 _
  have hnn : (n : Int) * n ≤ 1000000 := Int.mul_le_mul (c := 1000) (d := 1000) (by omega) (by omega) (by omega) (by omega)
  have h2 := stpN_two psiF (n := n) (by omega)
  refine fn_spec (C := CX) ⟨39, [], []⟩ [] tysX_ok mixed Tryd.func30 rfl (by kernel_rfl) Tryd.ntmps30 (by kernel_rfl) rfl ?_
  repeat' (conv => whnf
           first
             | (refine Ob.mk (by (first | omega | (simp only [InK]; omega) | exact ⟨by omega, tdivIn (by omega) (by omega)⟩ | exact ⟨by first | omega | (simp only [InK]; omega), by first | omega | (simp only [InK]; omega)⟩)) ?_)
             | (refine Cases.yes (by (first | assumption | exact decide_eq_true (by first | assumption | omega) | exact congrArg (!·) (decide_eq_false (by first | assumption | omega)) | exact congrArg (!·) (show _ = false by assumption) | rfl)) ?_)
             | (refine Cases.no (by (first | assumption | exact decide_eq_false (by first | assumption | omega) | exact congrArg (!·) (decide_eq_true (by first | assumption | omega)) | exact congrArg (!·) (show _ = true by assumption) | rfl)) ?_)
             | (refine Idx.mk ⟨_, rfl, by first | assumption | omega, ?_⟩)
             | (refine Idx.mk ⟨0, rfl, by omega, ?_⟩)
             | (refine DrawOb.start ?_)
             | (refine TryF.fast rfl (by decide +kernel) (by kernel_rfl) ?_)
             | (refine TryF.next rfl ?_)
             | (refine TryF.other ?_)
             | (refine TryG.go rfl (by decide +kernel) (by kernel_rfl) ?_)
             | (refine TryG.next rfl ?_))
  refine ⟨⟨Nat, fun p => ⟨[(0, int .i64 n), (3, int .i64 (stpN psiF n p)), (4, int .i64 p)], [], 0⟩, fun p => 2 ≤ p ∧ p ≤ n + 2, fun p => n + 3 - p, ⟨2, [], ⟨Nat.le_refl _, by omega⟩, (by refine ⟨?_, ?_, rfl⟩ <;> repeat (first | exact TmE.nil | exact OwnE.nil | refine TmE.cons (by first | exact AvLe.refl _ | exact AvLe.int (by omega) | exact AvLe.bool (by first | rfl | assumption)) ?_ | refine OwnE.cons rfl (BlkLe.refl _) ?_ | refine OwnE.cons rfl BlkLe.zero ?_))⟩, ?_⟩⟩
  rintro p ⟨hp2, hpn⟩
  have b1 := hbd p
  have b2 := hbd (p + 1)
  by_cases hd : p ≤ n
  · repeat' (conv => whnf
             first
               | (refine Ob.mk (by (first | omega | (simp only [InK]; omega) | exact ⟨by omega, tdivIn (by omega) (by omega)⟩ | exact ⟨by first | omega | (simp only [InK]; omega), by first | omega | (simp only [InK]; omega)⟩)) ?_)
               | (refine Cases.yes (by (first | assumption | exact decide_eq_true (by first | assumption | omega) | exact congrArg (!·) (decide_eq_false (by first | assumption | omega)) | exact congrArg (!·) (show _ = false by assumption) | rfl)) ?_)
               | (refine Cases.no (by (first | assumption | exact decide_eq_false (by first | assumption | omega) | exact congrArg (!·) (decide_eq_true (by first | assumption | omega)) | exact congrArg (!·) (show _ = true by assumption) | rfl)) ?_)
               | (refine Idx.mk ⟨_, rfl, by first | assumption | omega, ?_⟩)
               | (refine Idx.mk ⟨0, rfl, by omega, ?_⟩)
               | (refine DrawOb.start ?_)
               | (refine TryF.fast rfl (by decide +kernel) (by kernel_rfl) ?_)
               | (refine TryF.next rfl ?_)
               | (refine TryF.other ?_)
               | (refine TryG.go rfl (by decide +kernel) (by kernel_rfl) ?_)
               | (refine TryG.next rfl ?_))
    refine ⟨⟨Nat, fun q => ⟨[(0, int .i64 n), (3, int .i64 (stpN psiF n p)), (4, int .i64 p), (5, bool (pq p q)), (6, int .i64 q)], [], 0⟩, fun q => 2 ≤ q ∧ q ≤ p, fun q => p - q, ⟨2, [], ⟨Nat.le_refl _, hp2⟩, (by refine ⟨?_, ?_, rfl⟩ <;> repeat (first | exact TmE.nil | exact OwnE.nil | refine TmE.cons (by first | exact AvLe.refl _ | exact AvLe.int (by omega) | exact AvLe.bool (by first | rfl | assumption)) ?_ | refine OwnE.cons rfl (BlkLe.refl _) ?_ | refine OwnE.cons rfl BlkLe.zero ?_))⟩, ?_⟩⟩
    rintro q ⟨hq2, hqp⟩
    by_cases hq : q < p
    · cases hB : pq p q
      · have hx := pq_no hq2 hB
        repeat' (conv => whnf
                 first
                   | (refine Ob.mk (by (first | omega | (simp only [InK]; omega) | exact ⟨by omega, tdivIn (by omega) (by omega)⟩ | exact ⟨by first | omega | (simp only [InK]; omega), by first | omega | (simp only [InK]; omega)⟩)) ?_)
                   | (refine Cases.yes (by (first | assumption | exact decide_eq_true (by first | assumption | omega) | exact congrArg (!·) (decide_eq_false (by first | assumption | omega)) | exact congrArg (!·) (show _ = false by assumption) | rfl)) ?_)
                   | (refine Cases.no (by (first | assumption | exact decide_eq_false (by first | assumption | omega) | exact congrArg (!·) (decide_eq_true (by first | assumption | omega)) | exact congrArg (!·) (show _ = true by assumption) | rfl)) ?_)
                   | (refine Idx.mk ⟨_, rfl, by first | assumption | omega, ?_⟩)
                   | (refine Idx.mk ⟨0, rfl, by omega, ?_⟩)
                   | (refine DrawOb.start ?_)
                   | (refine TryF.fast rfl (by decide +kernel) (by kernel_rfl) ?_)
                   | (refine TryF.next rfl ?_)
                   | (refine TryF.other ?_)
                   | (refine TryG.go rfl (by decide +kernel) (by kernel_rfl) ?_)
                   | (refine TryG.next rfl ?_))
        exact ⟨q + 1, [], ⟨by omega, hq⟩, by show p - (q + 1) < p - q; omega, (by refine ⟨?_, ?_, rfl⟩ <;> repeat (first | exact TmE.nil | exact OwnE.nil | refine TmE.cons (by first | exact AvLe.refl _ | exact AvLe.int (by omega) | exact AvLe.bool (by first | rfl | assumption)) ?_ | refine OwnE.cons rfl (BlkLe.refl _) ?_ | refine OwnE.cons rfl BlkLe.zero ?_))⟩
      · have hx := pq_next (b := true) hq2 hB
        repeat' (conv => whnf
                 first
                   | (refine Ob.mk (by (first | omega | (simp only [InK]; omega) | exact ⟨by omega, tdivIn (by omega) (by omega)⟩ | exact ⟨by first | omega | (simp only [InK]; omega), by first | omega | (simp only [InK]; omega)⟩)) ?_)
                   | (refine Cases.yes (by (first | assumption | exact decide_eq_true (by first | assumption | omega) | exact congrArg (!·) (decide_eq_false (by first | assumption | omega)) | exact congrArg (!·) (show _ = false by assumption) | rfl)) ?_)
                   | (refine Cases.no (by (first | assumption | exact decide_eq_false (by first | assumption | omega) | exact congrArg (!·) (decide_eq_true (by first | assumption | omega)) | exact congrArg (!·) (show _ = true by assumption) | rfl)) ?_)
                   | (refine Idx.mk ⟨_, rfl, by first | assumption | omega, ?_⟩)
                   | (refine Idx.mk ⟨0, rfl, by omega, ?_⟩)
                   | (refine DrawOb.start ?_)
                   | (refine TryF.fast rfl (by decide +kernel) (by kernel_rfl) ?_)
                   | (refine TryF.next rfl ?_)
                   | (refine TryF.other ?_)
                   | (refine TryG.go rfl (by decide +kernel) (by kernel_rfl) ?_)
                   | (refine TryG.next rfl ?_))
        exact ⟨q + 1, [], ⟨by omega, hq⟩, by show p - (q + 1) < p - q; omega, (by refine ⟨?_, ?_, rfl⟩ <;> repeat (first | exact TmE.nil | exact OwnE.nil | refine TmE.cons (by first | exact AvLe.refl _ | exact AvLe.int (by omega) | exact AvLe.bool (by first | rfl | assumption)) ?_ | refine OwnE.cons rfl (BlkLe.refl _) ?_ | refine OwnE.cons rfl BlkLe.zero ?_))⟩
    · obtain rfl : q = p := by omega
      have em : (n : Int).tmod q = ((n % q : Nat) : Int) := (Int.ofNat_tmod n q).symm
      by_cases hpr : Prm q ∧ q ∣ n
      · have hB : pq q q = true := (pq_prm hp2).2 hpr.1
        have hz : n % q = 0 := Nat.mod_eq_zero_of_dvd hpr.2
        have hs := stpN_psi (n := n) (by omega) hpr.1 hpr.2
        have hq1 : 0 ≤ (stpN psiF n q).tdiv q := Int.tdiv_nonneg b1.1 (by omega)
        have hq3 : (stpN psiF n q).tdiv q ≤ stpN psiF n q := Int.tdiv_le_self _ b1.1
        repeat' (conv => whnf
                 first
                   | (refine Ob.mk (by (first | omega | (simp only [InK]; omega) | exact ⟨by omega, tdivIn (by omega) (by omega)⟩ | exact ⟨by first | omega | (simp only [InK]; omega), by first | omega | (simp only [InK]; omega)⟩)) ?_)
                   | (refine Cases.yes (by (first | assumption | exact decide_eq_true (by first | assumption | omega) | exact congrArg (!·) (decide_eq_false (by first | assumption | omega)) | exact congrArg (!·) (show _ = false by assumption) | rfl)) ?_)
                   | (refine Cases.no (by (first | assumption | exact decide_eq_false (by first | assumption | omega) | exact congrArg (!·) (decide_eq_true (by first | assumption | omega)) | exact congrArg (!·) (show _ = true by assumption) | rfl)) ?_)
                   | (refine Idx.mk ⟨_, rfl, by first | assumption | omega, ?_⟩)
                   | (refine Idx.mk ⟨0, rfl, by omega, ?_⟩)
                   | (refine DrawOb.start ?_)
                   | (refine TryF.fast rfl (by decide +kernel) (by kernel_rfl) ?_)
                   | (refine TryF.next rfl ?_)
                   | (refine TryF.other ?_)
                   | (refine TryG.go rfl (by decide +kernel) (by kernel_rfl) ?_)
                   | (refine TryG.next rfl ?_))
        exact ⟨q + 1, [], ⟨by omega, by omega⟩, by show n + 3 - (q + 1) < n + 3 - q; omega, (by refine ⟨?_, ?_, rfl⟩ <;> repeat (first | exact TmE.nil | exact OwnE.nil | refine TmE.cons (by first | exact AvLe.refl _ | exact AvLe.int (by omega) | exact AvLe.bool (by first | rfl | assumption)) ?_ | refine OwnE.cons rfl (BlkLe.refl _) ?_ | refine OwnE.cons rfl BlkLe.zero ?_))⟩
      · have hs := stpN_no psiF (n := n) (by omega) hpr
        cases hB : pq q q
        · repeat' (conv => whnf
                   first
                     | (refine Ob.mk (by (first | omega | (simp only [InK]; omega) | exact ⟨by omega, tdivIn (by omega) (by omega)⟩ | exact ⟨by first | omega | (simp only [InK]; omega), by first | omega | (simp only [InK]; omega)⟩)) ?_)
                     | (refine Cases.yes (by (first | assumption | exact decide_eq_true (by first | assumption | omega) | exact congrArg (!·) (decide_eq_false (by first | assumption | omega)) | exact congrArg (!·) (show _ = false by assumption) | rfl)) ?_)
                     | (refine Cases.no (by (first | assumption | exact decide_eq_false (by first | assumption | omega) | exact congrArg (!·) (decide_eq_true (by first | assumption | omega)) | exact congrArg (!·) (show _ = true by assumption) | rfl)) ?_)
                     | (refine Idx.mk ⟨_, rfl, by first | assumption | omega, ?_⟩)
                     | (refine Idx.mk ⟨0, rfl, by omega, ?_⟩)
                     | (refine DrawOb.start ?_)
                     | (refine TryF.fast rfl (by decide +kernel) (by kernel_rfl) ?_)
                     | (refine TryF.next rfl ?_)
                     | (refine TryF.other ?_)
                     | (refine TryG.go rfl (by decide +kernel) (by kernel_rfl) ?_)
                     | (refine TryG.next rfl ?_))
          exact ⟨q + 1, [], ⟨by omega, by omega⟩, by show n + 3 - (q + 1) < n + 3 - q; omega, (by refine ⟨?_, ?_, rfl⟩ <;> repeat (first | exact TmE.nil | exact OwnE.nil | refine TmE.cons (by first | exact AvLe.refl _ | exact AvLe.int (by omega) | exact AvLe.bool (by first | rfl | assumption)) ?_ | refine OwnE.cons rfl (BlkLe.refl _) ?_ | refine OwnE.cons rfl BlkLe.zero ?_))⟩
        · have hz : n % q ≠ 0 := fun h => hpr ⟨(pq_prm hp2).1 hB, Nat.dvd_of_mod_eq_zero h⟩
          repeat' (conv => whnf
                   first
                     | (refine Ob.mk (by (first | omega | (simp only [InK]; omega) | exact ⟨by omega, tdivIn (by omega) (by omega)⟩ | exact ⟨by first | omega | (simp only [InK]; omega), by first | omega | (simp only [InK]; omega)⟩)) ?_)
                     | (refine Cases.yes (by (first | assumption | exact decide_eq_true (by first | assumption | omega) | exact congrArg (!·) (decide_eq_false (by first | assumption | omega)) | exact congrArg (!·) (show _ = false by assumption) | rfl)) ?_)
                     | (refine Cases.no (by (first | assumption | exact decide_eq_false (by first | assumption | omega) | exact congrArg (!·) (decide_eq_true (by first | assumption | omega)) | exact congrArg (!·) (show _ = true by assumption) | rfl)) ?_)
                     | (refine Idx.mk ⟨_, rfl, by first | assumption | omega, ?_⟩)
                     | (refine Idx.mk ⟨0, rfl, by omega, ?_⟩)
                     | (refine DrawOb.start ?_)
                     | (refine TryF.fast rfl (by decide +kernel) (by kernel_rfl) ?_)
                     | (refine TryF.next rfl ?_)
                     | (refine TryF.other ?_)
                     | (refine TryG.go rfl (by decide +kernel) (by kernel_rfl) ?_)
                     | (refine TryG.next rfl ?_))
          exact ⟨q + 1, [], ⟨by omega, by omega⟩, by show n + 3 - (q + 1) < n + 3 - q; omega, (by refine ⟨?_, ?_, rfl⟩ <;> repeat (first | exact TmE.nil | exact OwnE.nil | refine TmE.cons (by first | exact AvLe.refl _ | exact AvLe.int (by omega) | exact AvLe.bool (by first | rfl | assumption)) ?_ | refine OwnE.cons rfl (BlkLe.refl _) ?_ | refine OwnE.cons rfl BlkLe.zero ?_))⟩
  · have he := stpN_end psiF (n := n) (k := p) (by omega) (by omega)
    repeat' (conv => whnf
             first
               | (refine Ob.mk (by (first | omega | (simp only [InK]; omega) | exact ⟨by omega, tdivIn (by omega) (by omega)⟩ | exact ⟨by first | omega | (simp only [InK]; omega), by first | omega | (simp only [InK]; omega)⟩)) ?_)
               | (refine Cases.yes (by (first | assumption | exact decide_eq_true (by first | assumption | omega) | exact congrArg (!·) (decide_eq_false (by first | assumption | omega)) | exact congrArg (!·) (show _ = false by assumption) | rfl)) ?_)
               | (refine Cases.no (by (first | assumption | exact decide_eq_false (by first | assumption | omega) | exact congrArg (!·) (decide_eq_true (by first | assumption | omega)) | exact congrArg (!·) (show _ = true by assumption) | rfl)) ?_)
               | (refine Idx.mk ⟨_, rfl, by first | assumption | omega, ?_⟩)
               | (refine Idx.mk ⟨0, rfl, by omega, ?_⟩)
               | (refine DrawOb.start ?_)
               | (refine TryF.fast rfl (by decide +kernel) (by kernel_rfl) ?_)
               | (refine TryF.next rfl ?_)
               | (refine TryF.other ?_)
               | (refine TryG.go rfl (by decide +kernel) (by kernel_rfl) ?_)
               | (refine TryG.next rfl ?_))
    refine ⟨⟨_, _, rfl, rfl, AvLe.int ?_⟩⟩
    exact he
end Go.Proofs.YteamlpflgfmieaaDoor

/- States in letters: square-free numbers, symbols, the formula. -/
namespace Go.Proofs.YteamlpflgfmieaaDoor
open Go Go.RowKit Go.VG HP
def freeB (m : Nat) : Bool := (List.range (m + 1)).all fun d => !(decide (2 ≤ d) && decide (d * d ≤ m) && m % (d * d) == 0)
theorem freeB_no {m d : Nat} (h2 : 2 ≤ d) (h3 : d * d ≤ m) (h : m % (d * d) = 0) : freeB m = false := by
  rw [Bool.eq_false_iff]
  intro hf
  have hd : d ≤ d * d := Nat.le_mul_of_pos_left d (by omega)
  have := List.all_eq_true.1 hf d (List.mem_range.2 (by omega))
  simp [h2, h3, h] at this
theorem freeB_yes {m p : Nat} (h : ∀ d, 2 ≤ d → d < p → m % (d * d) ≠ 0) (hp : m < p * p) : freeB m = true := by
  unfold freeB
  rw [List.all_eq_true]
  intro d _
  cases hc : (decide (2 ≤ d) && decide (d * d ≤ m) && m % (d * d) == 0) with
  | false => rfl
  | true =>
    simp only [Bool.and_eq_true, decide_eq_true_eq, beq_iff_eq] at hc
    have hlt : d < p := by
      apply Nat.lt_of_not_le
      intro hpd
      have := Nat.mul_le_mul hpd hpd
      omega
    exact absurd hc.2 (h d hc.1.1 hlt)
set_option maxHeartbeats 2000000 in
theorem free_sp (n : Int) (h1 : -1000000 ≤ n) (h2 : n ≤ 1000000) : Sp CX 51 [int .i64 n] (bool (freeB n.natAbs)) := by
  refine fn_spec (C := CX) ⟨21, [], []⟩ [] tysX_ok mixed Tryd.func51 rfl (by kernel_rfl) Tryd.ntmps51 (by kernel_rfl) rfl ?_
  obtain ⟨m, hm⟩ : ∃ m, m = n.natAbs := ⟨_, rfl⟩
  have hmx : (if n < -n then -n else n) = (m : Int) := by split <;> omega
  rw [← hm]
  repeat' (conv => whnf
           first
             | (refine Ob.mk (by (first | omega | (simp only [InK]; omega) | exact ⟨by omega, tdivIn (by omega) (by omega)⟩ | exact ⟨by first | omega | (simp only [InK]; omega), by first | omega | (simp only [InK]; omega)⟩)) ?_)
             | (refine Cases.yes (by (first | assumption | exact decide_eq_true (by first | assumption | omega) | exact congrArg (!·) (decide_eq_false (by first | assumption | omega)) | exact congrArg (!·) (show _ = false by assumption) | rfl)) ?_)
             | (refine Cases.no (by (first | assumption | exact decide_eq_false (by first | assumption | omega) | exact congrArg (!·) (decide_eq_true (by first | assumption | omega)) | exact congrArg (!·) (show _ = true by assumption) | rfl)) ?_)
             | (refine Idx.mk ⟨_, rfl, by first | assumption | omega, ?_⟩)
             | (refine Idx.mk ⟨0, rfl, by omega, ?_⟩)
             | (refine DrawOb.start ?_)
             | (refine TryF.fast rfl (by decide +kernel) (by kernel_rfl) ?_)
             | (refine TryF.next rfl ?_)
             | (refine TryF.other ?_)
             | (refine TryG.go rfl (by decide +kernel) (by kernel_rfl) ?_)
             | (refine TryG.next rfl ?_))
  refine ⟨⟨Nat, fun p => ⟨[(0, int .i64 m), (3, int .i64 p)], [], 0⟩, fun p => 2 ≤ p ∧ p ≤ 2000 + m ∧ Hid (∀ d, 2 ≤ d → d < p → m % (d * d) ≠ 0), fun p => m + 2001 - p, ⟨2, [], ⟨Nat.le_refl _, by omega, fun d a b => by omega⟩, by
    refine ⟨?_, ?_, rfl⟩
    · exact .cons (AvLe.int hmx) (.cons (AvLe.refl _) .nil)
    · exact .nil⟩, ?_⟩⟩
  rintro p ⟨k1, k2, k3⟩
  have hpp : p ≤ p * p := Nat.le_mul_of_pos_left p (by omega)
  have hsq : (p : Int) * p ≤ 1002000 * 1002000 := Int.mul_le_mul (by omega) (by omega) (by omega) (by omega)
  have ec : ((p * p : Nat) : Int) = (p : Int) * p := Int.natCast_mul p p
  by_cases hc : p * p ≤ m
  · have em : (m : Int).tmod ((p : Int) * p) = ((m % (p * p) : Nat) : Int) := by rw [← ec]; exact (Int.ofNat_tmod m (p * p)).symm
    have hpos : (p : Int) * p ≠ 0 := by omega
    by_cases hz : m % (p * p) = 0
    · have hf := freeB_no k1 hc hz
      repeat' (conv => whnf
               first
                 | (refine Ob.mk (by (first | omega | (simp only [InK]; omega) | exact ⟨by omega, tdivIn (by omega) (by omega)⟩ | exact ⟨by first | omega | (simp only [InK]; omega), by first | omega | (simp only [InK]; omega)⟩)) ?_)
                 | (refine Cases.yes (by (first | assumption | exact decide_eq_true (by first | assumption | omega) | exact congrArg (!·) (decide_eq_false (by first | assumption | omega)) | exact congrArg (!·) (show _ = false by assumption) | rfl)) ?_)
                 | (refine Cases.no (by (first | assumption | exact decide_eq_false (by first | assumption | omega) | exact congrArg (!·) (decide_eq_true (by first | assumption | omega)) | exact congrArg (!·) (show _ = true by assumption) | rfl)) ?_)
                 | (refine Idx.mk ⟨_, rfl, by first | assumption | omega, ?_⟩)
                 | (refine Idx.mk ⟨0, rfl, by omega, ?_⟩)
                 | (refine DrawOb.start ?_)
                 | (refine TryF.fast rfl (by decide +kernel) (by kernel_rfl) ?_)
                 | (refine TryF.next rfl ?_)
                 | (refine TryF.other ?_)
                 | (refine TryG.go rfl (by decide +kernel) (by kernel_rfl) ?_)
                 | (refine TryG.next rfl ?_))
      refine ⟨⟨_, _, rfl, rfl, ?_⟩⟩
      exact AvLe.bool hf.symm
    · repeat' (conv => whnf
               first
                 | (refine Ob.mk (by (first | omega | (simp only [InK]; omega) | exact ⟨by omega, tdivIn (by omega) (by omega)⟩ | exact ⟨by first | omega | (simp only [InK]; omega), by first | omega | (simp only [InK]; omega)⟩)) ?_)
                 | (refine Cases.yes (by (first | assumption | exact decide_eq_true (by first | assumption | omega) | exact congrArg (!·) (decide_eq_false (by first | assumption | omega)) | exact congrArg (!·) (show _ = false by assumption) | rfl)) ?_)
                 | (refine Cases.no (by (first | assumption | exact decide_eq_false (by first | assumption | omega) | exact congrArg (!·) (decide_eq_true (by first | assumption | omega)) | exact congrArg (!·) (show _ = true by assumption) | rfl)) ?_)
                 | (refine Idx.mk ⟨_, rfl, by first | assumption | omega, ?_⟩)
                 | (refine Idx.mk ⟨0, rfl, by omega, ?_⟩)
                 | (refine DrawOb.start ?_)
                 | (refine TryF.fast rfl (by decide +kernel) (by kernel_rfl) ?_)
                 | (refine TryF.next rfl ?_)
                 | (refine TryF.other ?_)
                 | (refine TryG.go rfl (by decide +kernel) (by kernel_rfl) ?_)
                 | (refine TryG.next rfl ?_))
      exact ⟨p + 1, [], ⟨by omega, by omega, fun d a b => by
        by_cases hd : d = p
        · subst hd; exact hz
        · exact k3.out d a (by omega)⟩, by show m + 2001 - (p + 1) < m + 2001 - p; omega, (by refine ⟨?_, ?_, rfl⟩ <;> repeat (first | exact TmE.nil | exact OwnE.nil | refine TmE.cons (by first | exact AvLe.refl _ | exact AvLe.int (by omega) | exact AvLe.bool (by first | rfl | assumption)) ?_ | refine OwnE.cons rfl (BlkLe.refl _) ?_ | refine OwnE.cons rfl BlkLe.zero ?_))⟩
  · have hf := freeB_yes k3.out (by omega)
    repeat' (conv => whnf
             first
               | (refine Ob.mk (by (first | omega | (simp only [InK]; omega) | exact ⟨by omega, tdivIn (by omega) (by omega)⟩ | exact ⟨by first | omega | (simp only [InK]; omega), by first | omega | (simp only [InK]; omega)⟩)) ?_)
               | (refine Cases.yes (by (first | assumption | exact decide_eq_true (by first | assumption | omega) | exact congrArg (!·) (decide_eq_false (by first | assumption | omega)) | exact congrArg (!·) (show _ = false by assumption) | rfl)) ?_)
               | (refine Cases.no (by (first | assumption | exact decide_eq_false (by first | assumption | omega) | exact congrArg (!·) (decide_eq_true (by first | assumption | omega)) | exact congrArg (!·) (show _ = true by assumption) | rfl)) ?_)
               | (refine Idx.mk ⟨_, rfl, by first | assumption | omega, ?_⟩)
               | (refine Idx.mk ⟨0, rfl, by omega, ?_⟩)
               | (refine DrawOb.start ?_)
               | (refine TryF.fast rfl (by decide +kernel) (by kernel_rfl) ?_)
               | (refine TryF.next rfl ?_)
               | (refine TryF.other ?_)
               | (refine TryG.go rfl (by decide +kernel) (by kernel_rfl) ?_)
               | (refine TryG.next rfl ?_))
    refine ⟨⟨_, _, rfl, rfl, ?_⟩⟩
    exact AvLe.bool hf.symm
theorem tdiv_bd {d k B : Int} (h1 : -B ≤ d) (h2 : d ≤ B) : -B ≤ d.tdiv k ∧ d.tdiv k ≤ B := by
  have h := Int.natAbs_tdiv d k
  have h3 := Nat.div_le_self d.natAbs k.natAbs
  change (d.tdiv k).natAbs = d.natAbs / k.natAbs at h
  generalize d.tdiv k = x at *
  generalize d.natAbs / k.natAbs = y at *
  omega
def fundB (d : Int) : Bool := if d = 0 ∨ d = 1 then false else (decide (d % 4 = 1) && freeB d.natAbs) || (decide (d.tmod 4 = 0) && decide (2 ≤ d.tdiv 4 % 4) && freeB (d.tdiv 4).natAbs)
set_option maxHeartbeats 4000000 in
theorem fund28_sp (d : Int) (h1 : -1000000 ≤ d) (h2 : d ≤ 1000000) : Sp CX 29 [int .i64 d] (bool (fundB d)) := by
  refine fn_spec (C := CX) ⟨32, [], []⟩ [] tysX_ok mixed Tryd.func29 rfl (by kernel_rfl) Tryd.ntmps29 (by kernel_rfl) rfl ?_
  have hq1 : -1000000 ≤ d.tdiv 4 ∧ d.tdiv 4 ≤ 1000000 := tdiv_bd h1 h2
  by_cases c0 : d = 0
  · subst c0
    repeat' (conv => whnf
             first
               | (refine Ob.mk (by (first | omega | (simp only [InK]; omega) | exact ⟨by omega, tdivIn (by omega) (by omega)⟩ | exact ⟨by first | omega | (simp only [InK]; omega), by first | omega | (simp only [InK]; omega)⟩)) ?_)
               | (refine Cases.yes (by (first | assumption | exact decide_eq_true (by first | assumption | omega) | exact congrArg (!·) (decide_eq_false (by first | assumption | omega)) | exact congrArg (!·) (show _ = false by assumption) | rfl)) ?_)
               | (refine Cases.no (by (first | assumption | exact decide_eq_false (by first | assumption | omega) | exact congrArg (!·) (decide_eq_true (by first | assumption | omega)) | exact congrArg (!·) (show _ = true by assumption) | rfl)) ?_)
               | (refine Idx.mk ⟨_, rfl, by first | assumption | omega, ?_⟩)
               | (refine Idx.mk ⟨0, rfl, by omega, ?_⟩)
               | (refine DrawOb.start ?_)
               | (refine TryF.fast rfl (by decide +kernel) (by kernel_rfl) ?_)
               | (refine TryF.next rfl ?_)
               | (refine TryF.other ?_)
               | (refine TryG.go rfl (by decide +kernel) (by kernel_rfl) ?_)
               | (refine TryG.next rfl ?_))
    refine ⟨⟨_, _, rfl, rfl, ?_⟩⟩
    exact AvLe.bool rfl
  by_cases c1 : d = 1
  · subst c1
    repeat' (conv => whnf
             first
               | (refine Ob.mk (by (first | omega | (simp only [InK]; omega) | exact ⟨by omega, tdivIn (by omega) (by omega)⟩ | exact ⟨by first | omega | (simp only [InK]; omega), by first | omega | (simp only [InK]; omega)⟩)) ?_)
               | (refine Cases.yes (by (first | assumption | exact decide_eq_true (by first | assumption | omega) | exact congrArg (!·) (decide_eq_false (by first | assumption | omega)) | exact congrArg (!·) (show _ = false by assumption) | rfl)) ?_)
               | (refine Cases.no (by (first | assumption | exact decide_eq_false (by first | assumption | omega) | exact congrArg (!·) (decide_eq_true (by first | assumption | omega)) | exact congrArg (!·) (show _ = true by assumption) | rfl)) ?_)
               | (refine Idx.mk ⟨_, rfl, by first | assumption | omega, ?_⟩)
               | (refine Idx.mk ⟨0, rfl, by omega, ?_⟩)
               | (refine DrawOb.start ?_)
               | (refine TryF.fast rfl (by decide +kernel) (by kernel_rfl) ?_)
               | (refine TryF.next rfl ?_)
               | (refine TryF.other ?_)
               | (refine TryG.go rfl (by decide +kernel) (by kernel_rfl) ?_)
               | (refine TryG.next rfl ?_))
    refine ⟨⟨_, _, rfl, rfl, ?_⟩⟩
    exact AvLe.bool rfl
  obtain ⟨B1, f1⟩ : ∃ B, B = freeB d.natAbs := ⟨_, rfl⟩
  obtain ⟨B2, f2⟩ : ∃ B, B = freeB (d.tdiv 4).natAbs := ⟨_, rfl⟩
  have e0 : fundB d = ((decide (d % 4 = 1) && B1) || (decide (d.tmod 4 = 0) && decide (2 ≤ d.tdiv 4 % 4) && B2)) := by unfold fundB; rw [if_neg (by omega), f1, f2]
  have s1 := free_sp d h1 h2
  have s2 := free_sp (d.tdiv 4) hq1.1 hq1.2
  rw [← f1] at s1
  rw [← f2] at s2
  rw [e0]
  clear e0 f1 f2
  by_cases c2 : d % 4 = 1
  · cases B1
    · by_cases c3 : d.tmod 4 = 0
      · exact absurd (Int.emod_eq_zero_of_dvd (Int.dvd_of_tmod_eq_zero c3)) (by omega)
      · repeat' (conv => whnf
                 first
                   | (refine Ob.mk (by (first | omega | (simp only [InK]; omega) | exact ⟨by omega, tdivIn (by omega) (by omega)⟩ | exact ⟨by first | omega | (simp only [InK]; omega), by first | omega | (simp only [InK]; omega)⟩)) ?_)
                   | (refine Cases.yes (by (first | assumption | exact decide_eq_true (by first | assumption | omega) | exact congrArg (!·) (decide_eq_false (by first | assumption | omega)) | exact congrArg (!·) (show _ = false by assumption) | rfl)) ?_)
                   | (refine Cases.no (by (first | assumption | exact decide_eq_false (by first | assumption | omega) | exact congrArg (!·) (decide_eq_true (by first | assumption | omega)) | exact congrArg (!·) (show _ = true by assumption) | rfl)) ?_)
                   | (refine Idx.mk ⟨_, rfl, by first | assumption | omega, ?_⟩)
                   | (refine Idx.mk ⟨0, rfl, by omega, ?_⟩)
                   | (refine DrawOb.start ?_)
                   | (refine TryF.fast rfl (by decide +kernel) (by kernel_rfl) ?_)
                   | (refine TryF.next rfl ?_)
                   | (refine TryF.other ?_)
                   | (refine TryG.go rfl (by decide +kernel) (by kernel_rfl) ?_)
                   | (refine TryG.next rfl ?_)
                   | (refine Sp.call (mod_sp d 4 (by omega) (by omega) (by omega) (by omega)) (ArgsLe.refl _) rfl (AvLe.refl _) ?_)
                   | (refine Sp.call (s1) (ArgsLe.refl _) rfl (AvLe.refl _) ?_)
                   | (refine Sp.call (s2) (ArgsLe.refl _) rfl (AvLe.refl _) ?_))
        conv => whnf
        trace_state
        refine ⟨⟨_, _, rfl, rfl, ?_⟩⟩
        exact AvLe.bool (by simp only [c2, c3, decide_true, decide_false, Bool.and_true, Bool.and_false, Bool.true_and, Bool.false_and, Bool.or_true, Bool.or_false, Bool.false_or, Bool.true_or])
    · repeat' (conv => whnf
               first
                 | (refine Ob.mk (by (first | omega | (simp only [InK]; omega) | exact ⟨by omega, tdivIn (by omega) (by omega)⟩ | exact ⟨by first | omega | (simp only [InK]; omega), by first | omega | (simp only [InK]; omega)⟩)) ?_)
                 | (refine Cases.yes (by (first | assumption | exact decide_eq_true (by first | assumption | omega) | exact congrArg (!·) (decide_eq_false (by first | assumption | omega)) | exact congrArg (!·) (show _ = false by assumption) | rfl)) ?_)
                 | (refine Cases.no (by (first | assumption | exact decide_eq_false (by first | assumption | omega) | exact congrArg (!·) (decide_eq_true (by first | assumption | omega)) | exact congrArg (!·) (show _ = true by assumption) | rfl)) ?_)
                 | (refine Idx.mk ⟨_, rfl, by first | assumption | omega, ?_⟩)
                 | (refine Idx.mk ⟨0, rfl, by omega, ?_⟩)
                 | (refine DrawOb.start ?_)
                 | (refine TryF.fast rfl (by decide +kernel) (by kernel_rfl) ?_)
                 | (refine TryF.next rfl ?_)
                 | (refine TryF.other ?_)
                 | (refine TryG.go rfl (by decide +kernel) (by kernel_rfl) ?_)
                 | (refine TryG.next rfl ?_)
                 | (refine Sp.call (mod_sp d 4 (by omega) (by omega) (by omega) (by omega)) (ArgsLe.refl _) rfl (AvLe.refl _) ?_)
                 | (refine Sp.call (s1) (ArgsLe.refl _) rfl (AvLe.refl _) ?_)
                 | (refine Sp.call (s2) (ArgsLe.refl _) rfl (AvLe.refl _) ?_))
      refine ⟨⟨_, _, rfl, rfl, ?_⟩⟩
      exact AvLe.bool (by simp only [c2, decide_true, decide_false, Bool.and_true, Bool.and_false, Bool.true_and, Bool.false_and, Bool.or_true, Bool.or_false, Bool.false_or, Bool.true_or])
  · by_cases c3 : d.tmod 4 = 0
    · by_cases c4 : 2 ≤ d.tdiv 4 % 4
      · cases B2
        · repeat' (conv => whnf
                   first
                     | (refine Ob.mk (by (first | omega | (simp only [InK]; omega) | exact ⟨by omega, tdivIn (by omega) (by omega)⟩ | exact ⟨by first | omega | (simp only [InK]; omega), by first | omega | (simp only [InK]; omega)⟩)) ?_)
                     | (refine Cases.yes (by (first | assumption | exact decide_eq_true (by first | assumption | omega) | exact congrArg (!·) (decide_eq_false (by first | assumption | omega)) | exact congrArg (!·) (show _ = false by assumption) | rfl)) ?_)
                     | (refine Cases.no (by (first | assumption | exact decide_eq_false (by first | assumption | omega) | exact congrArg (!·) (decide_eq_true (by first | assumption | omega)) | exact congrArg (!·) (show _ = true by assumption) | rfl)) ?_)
                     | (refine Idx.mk ⟨_, rfl, by first | assumption | omega, ?_⟩)
                     | (refine Idx.mk ⟨0, rfl, by omega, ?_⟩)
                     | (refine DrawOb.start ?_)
                     | (refine TryF.fast rfl (by decide +kernel) (by kernel_rfl) ?_)
                     | (refine TryF.next rfl ?_)
                     | (refine TryF.other ?_)
                     | (refine TryG.go rfl (by decide +kernel) (by kernel_rfl) ?_)
                     | (refine TryG.next rfl ?_)
                     | (refine Sp.call (mod_sp d 4 (by omega) (by omega) (by omega) (by omega)) (ArgsLe.refl _) rfl (AvLe.refl _) ?_)
                     | (refine Sp.call (mod_sp (d.tdiv 4) 4 (by omega) (by omega) (by omega) (by omega)) (ArgsLe.refl _) rfl (AvLe.refl _) ?_)
                     | (refine Sp.call (s1) (ArgsLe.refl _) rfl (AvLe.refl _) ?_)
                     | (refine Sp.call (s2) (ArgsLe.refl _) rfl (AvLe.refl _) ?_))
          refine ⟨⟨_, _, rfl, rfl, ?_⟩⟩
          exact AvLe.bool (by simp only [c2, c3, c4, decide_true, decide_false, Bool.and_true, Bool.and_false, Bool.true_and, Bool.false_and, Bool.or_true, Bool.or_false, Bool.false_or, Bool.true_or])
        · repeat' (conv => whnf
                   first
                     | (refine Ob.mk (by (first | omega | (simp only [InK]; omega) | exact ⟨by omega, tdivIn (by omega) (by omega)⟩ | exact ⟨by first | omega | (simp only [InK]; omega), by first | omega | (simp only [InK]; omega)⟩)) ?_)
                     | (refine Cases.yes (by (first | assumption | exact decide_eq_true (by first | assumption | omega) | exact congrArg (!·) (decide_eq_false (by first | assumption | omega)) | exact congrArg (!·) (show _ = false by assumption) | rfl)) ?_)
                     | (refine Cases.no (by (first | assumption | exact decide_eq_false (by first | assumption | omega) | exact congrArg (!·) (decide_eq_true (by first | assumption | omega)) | exact congrArg (!·) (show _ = true by assumption) | rfl)) ?_)
                     | (refine Idx.mk ⟨_, rfl, by first | assumption | omega, ?_⟩)
                     | (refine Idx.mk ⟨0, rfl, by omega, ?_⟩)
                     | (refine DrawOb.start ?_)
                     | (refine TryF.fast rfl (by decide +kernel) (by kernel_rfl) ?_)
                     | (refine TryF.next rfl ?_)
                     | (refine TryF.other ?_)
                     | (refine TryG.go rfl (by decide +kernel) (by kernel_rfl) ?_)
                     | (refine TryG.next rfl ?_)
                     | (refine Sp.call (mod_sp d 4 (by omega) (by omega) (by omega) (by omega)) (ArgsLe.refl _) rfl (AvLe.refl _) ?_)
                     | (refine Sp.call (mod_sp (d.tdiv 4) 4 (by omega) (by omega) (by omega) (by omega)) (ArgsLe.refl _) rfl (AvLe.refl _) ?_)
                     | (refine Sp.call (s1) (ArgsLe.refl _) rfl (AvLe.refl _) ?_)
                     | (refine Sp.call (s2) (ArgsLe.refl _) rfl (AvLe.refl _) ?_))
          refine ⟨⟨_, _, rfl, rfl, ?_⟩⟩
          exact AvLe.bool (by simp only [c2, c3, c4, decide_true, decide_false, Bool.and_true, Bool.and_false, Bool.true_and, Bool.false_and, Bool.or_true, Bool.or_false, Bool.false_or, Bool.true_or])
      · repeat' (conv => whnf
                 first
                   | (refine Ob.mk (by (first | omega | (simp only [InK]; omega) | exact ⟨by omega, tdivIn (by omega) (by omega)⟩ | exact ⟨by first | omega | (simp only [InK]; omega), by first | omega | (simp only [InK]; omega)⟩)) ?_)
                   | (refine Cases.yes (by (first | assumption | exact decide_eq_true (by first | assumption | omega) | exact congrArg (!·) (decide_eq_false (by first | assumption | omega)) | exact congrArg (!·) (show _ = false by assumption) | rfl)) ?_)
                   | (refine Cases.no (by (first | assumption | exact decide_eq_false (by first | assumption | omega) | exact congrArg (!·) (decide_eq_true (by first | assumption | omega)) | exact congrArg (!·) (show _ = true by assumption) | rfl)) ?_)
                   | (refine Idx.mk ⟨_, rfl, by first | assumption | omega, ?_⟩)
                   | (refine Idx.mk ⟨0, rfl, by omega, ?_⟩)
                   | (refine DrawOb.start ?_)
                   | (refine TryF.fast rfl (by decide +kernel) (by kernel_rfl) ?_)
                   | (refine TryF.next rfl ?_)
                   | (refine TryF.other ?_)
                   | (refine TryG.go rfl (by decide +kernel) (by kernel_rfl) ?_)
                   | (refine TryG.next rfl ?_)
                   | (refine Sp.call (mod_sp d 4 (by omega) (by omega) (by omega) (by omega)) (ArgsLe.refl _) rfl (AvLe.refl _) ?_)
                   | (refine Sp.call (mod_sp (d.tdiv 4) 4 (by omega) (by omega) (by omega) (by omega)) (ArgsLe.refl _) rfl (AvLe.refl _) ?_)
                   | (refine Sp.call (s1) (ArgsLe.refl _) rfl (AvLe.refl _) ?_)
                   | (refine Sp.call (s2) (ArgsLe.refl _) rfl (AvLe.refl _) ?_))
        refine ⟨⟨_, _, rfl, rfl, ?_⟩⟩
        exact AvLe.bool (by simp only [c2, c3, c4, decide_true, decide_false, Bool.and_true, Bool.and_false, Bool.true_and, Bool.false_and, Bool.or_true, Bool.or_false, Bool.false_or, Bool.true_or])
    · repeat' (conv => whnf
               first
                 | (refine Ob.mk (by (first | omega | (simp only [InK]; omega) | exact ⟨by omega, tdivIn (by omega) (by omega)⟩ | exact ⟨by first | omega | (simp only [InK]; omega), by first | omega | (simp only [InK]; omega)⟩)) ?_)
                 | (refine Cases.yes (by (first | assumption | exact decide_eq_true (by first | assumption | omega) | exact congrArg (!·) (decide_eq_false (by first | assumption | omega)) | exact congrArg (!·) (show _ = false by assumption) | rfl)) ?_)
                 | (refine Cases.no (by (first | assumption | exact decide_eq_false (by first | assumption | omega) | exact congrArg (!·) (decide_eq_true (by first | assumption | omega)) | exact congrArg (!·) (show _ = true by assumption) | rfl)) ?_)
                 | (refine Idx.mk ⟨_, rfl, by first | assumption | omega, ?_⟩)
                 | (refine Idx.mk ⟨0, rfl, by omega, ?_⟩)
                 | (refine DrawOb.start ?_)
                 | (refine TryF.fast rfl (by decide +kernel) (by kernel_rfl) ?_)
                 | (refine TryF.next rfl ?_)
                 | (refine TryF.other ?_)
                 | (refine TryG.go rfl (by decide +kernel) (by kernel_rfl) ?_)
                 | (refine TryG.next rfl ?_)
                 | (refine Sp.call (mod_sp d 4 (by omega) (by omega) (by omega) (by omega)) (ArgsLe.refl _) rfl (AvLe.refl _) ?_)
                 | (refine Sp.call (mod_sp (d.tdiv 4) 4 (by omega) (by omega) (by omega) (by omega)) (ArgsLe.refl _) rfl (AvLe.refl _) ?_)
                 | (refine Sp.call (s1) (ArgsLe.refl _) rfl (AvLe.refl _) ?_)
                 | (refine Sp.call (s2) (ArgsLe.refl _) rfl (AvLe.refl _) ?_))
      refine ⟨⟨_, _, rfl, rfl, ?_⟩⟩
      exact AvLe.bool (by simp only [c2, c3, decide_true, decide_false, Bool.and_true, Bool.and_false, Bool.true_and, Bool.false_and, Bool.or_true, Bool.or_false, Bool.false_or, Bool.true_or])
end Go.Proofs.YteamlpflgfmieaaDoor

/- States in letters: lambda and the formula of the reference, square-free numbers, symbols. -/
namespace Go.Proofs.YteamlpflgfmieaaDoor
open Go Go.RowKit Go.VG HP
set_option maxHeartbeats 8000000 in
set_option maxRecDepth 20000 in
theorem rlam_sp (n f : Nat) (hn0 : 1 ≤ n) (hn : n ≤ 1000) (hf0 : 1 ≤ f) (hf : f ≤ 1000) (hfn : f ∣ n) : Sp CX 42 [int .i64 n, int .i64 f] (int .i64 (lam f n)) := by
  have hnn : (n : Int) * n ≤ 1000000 := Int.mul_le_mul (c := 1000) (d := 1000) (by omega) (by omega) (by omega) (by omega)
  have h2 := parN_two (lamF f) (n := n) (by omega)
  refine fn_spec (C := CX) ⟨86, [], []⟩ [] tysX_ok mixed Tryd.func42 rfl (by kernel_rfl) Tryd.ntmps42 (by kernel_rfl) rfl ?_
  repeat' (conv => whnf
           first
             | (refine Ob.mk (by (first | omega | (simp only [InK]; omega) | exact ⟨by omega, tdivIn (by omega) (by omega)⟩ | exact ⟨by first | omega | (simp only [InK]; omega), by first | omega | (simp only [InK]; omega)⟩)) ?_)
             | (refine Cases.yes (by (first | assumption | exact decide_eq_true (by first | assumption | omega) | exact congrArg (!·) (decide_eq_false (by first | assumption | omega)) | exact congrArg (!·) (show _ = false by assumption) | rfl)) ?_)
             | (refine Cases.no (by (first | assumption | exact decide_eq_false (by first | assumption | omega) | exact congrArg (!·) (decide_eq_true (by first | assumption | omega)) | exact congrArg (!·) (show _ = true by assumption) | rfl)) ?_)
             | (refine Idx.mk ⟨_, rfl, by first | assumption | omega, ?_⟩)
             | (refine Idx.mk ⟨0, rfl, by omega, ?_⟩)
             | (refine DrawOb.start ?_)
             | (refine TryF.fast rfl (by decide +kernel) (by kernel_rfl) ?_)
             | (refine TryF.next rfl ?_)
             | (refine TryF.other ?_)
             | (refine TryG.go rfl (by decide +kernel) (by kernel_rfl) ?_)
             | (refine TryG.next rfl ?_))
  refine ⟨⟨Nat, fun p => ⟨[(0, int .i64 n), (1, int .i64 f), (5, int .i64 (parN (lamF f) n p)), (6, int .i64 p)], [], 0⟩, fun p => 2 ≤ p ∧ p ≤ n + 2, fun p => n + 3 - p, ⟨2, [], ⟨Nat.le_refl _, by omega⟩, (by refine ⟨?_, ?_, rfl⟩ <;> repeat (first | exact TmE.nil | exact OwnE.nil | refine TmE.cons (by first | exact AvLe.refl _ | exact AvLe.int (by omega) | exact AvLe.bool (by first | rfl | assumption)) ?_ | refine OwnE.cons rfl (BlkLe.refl _) ?_ | refine OwnE.cons rfl BlkLe.zero ?_))⟩, ?_⟩⟩
  rintro p ⟨hp2, hpn⟩
  by_cases hd : p ≤ n
  · repeat' (conv => whnf
             first
               | (refine Ob.mk (by (first | omega | (simp only [InK]; omega) | exact ⟨by omega, tdivIn (by omega) (by omega)⟩ | exact ⟨by first | omega | (simp only [InK]; omega), by first | omega | (simp only [InK]; omega)⟩)) ?_)
               | (refine Cases.yes (by (first | assumption | exact decide_eq_true (by first | assumption | omega) | exact congrArg (!·) (decide_eq_false (by first | assumption | omega)) | exact congrArg (!·) (show _ = false by assumption) | rfl)) ?_)
               | (refine Cases.no (by (first | assumption | exact decide_eq_false (by first | assumption | omega) | exact congrArg (!·) (decide_eq_true (by first | assumption | omega)) | exact congrArg (!·) (show _ = true by assumption) | rfl)) ?_)
               | (refine Idx.mk ⟨_, rfl, by first | assumption | omega, ?_⟩)
               | (refine Idx.mk ⟨0, rfl, by omega, ?_⟩)
               | (refine DrawOb.start ?_)
               | (refine TryF.fast rfl (by decide +kernel) (by kernel_rfl) ?_)
               | (refine TryF.next rfl ?_)
               | (refine TryF.other ?_)
               | (refine TryG.go rfl (by decide +kernel) (by kernel_rfl) ?_)
               | (refine TryG.next rfl ?_))
    refine ⟨⟨Nat, fun q => ⟨[(0, int .i64 n), (1, int .i64 f), (5, int .i64 (parN (lamF f) n p)), (6, int .i64 p), (7, bool (pq p q)), (8, int .i64 q)], [], 0⟩, fun q => 2 ≤ q ∧ q ≤ p, fun q => p - q, ⟨2, [], ⟨Nat.le_refl _, hp2⟩, (by refine ⟨?_, ?_, rfl⟩ <;> repeat (first | exact TmE.nil | exact OwnE.nil | refine TmE.cons (by first | exact AvLe.refl _ | exact AvLe.int (by omega) | exact AvLe.bool (by first | rfl | assumption)) ?_ | refine OwnE.cons rfl (BlkLe.refl _) ?_ | refine OwnE.cons rfl BlkLe.zero ?_))⟩, ?_⟩⟩
    rintro q ⟨hq2, hqp⟩
    by_cases hq : q < p
    · cases hB : pq p q
      · have hx := pq_no hq2 hB
        repeat' (conv => whnf
                 first
                   | (refine Ob.mk (by (first | omega | (simp only [InK]; omega) | exact ⟨by omega, tdivIn (by omega) (by omega)⟩ | exact ⟨by first | omega | (simp only [InK]; omega), by first | omega | (simp only [InK]; omega)⟩)) ?_)
                   | (refine Cases.yes (by (first | assumption | exact decide_eq_true (by first | assumption | omega) | exact congrArg (!·) (decide_eq_false (by first | assumption | omega)) | exact congrArg (!·) (show _ = false by assumption) | rfl)) ?_)
                   | (refine Cases.no (by (first | assumption | exact decide_eq_false (by first | assumption | omega) | exact congrArg (!·) (decide_eq_true (by first | assumption | omega)) | exact congrArg (!·) (show _ = true by assumption) | rfl)) ?_)
                   | (refine Idx.mk ⟨_, rfl, by first | assumption | omega, ?_⟩)
                   | (refine Idx.mk ⟨0, rfl, by omega, ?_⟩)
                   | (refine DrawOb.start ?_)
                   | (refine TryF.fast rfl (by decide +kernel) (by kernel_rfl) ?_)
                   | (refine TryF.next rfl ?_)
                   | (refine TryF.other ?_)
                   | (refine TryG.go rfl (by decide +kernel) (by kernel_rfl) ?_)
                   | (refine TryG.next rfl ?_))
        exact ⟨q + 1, [], ⟨by omega, hq⟩, by show p - (q + 1) < p - q; omega, (by refine ⟨?_, ?_, rfl⟩ <;> repeat (first | exact TmE.nil | exact OwnE.nil | refine TmE.cons (by first | exact AvLe.refl _ | exact AvLe.int (by omega) | exact AvLe.bool (by first | rfl | assumption)) ?_ | refine OwnE.cons rfl (BlkLe.refl _) ?_ | refine OwnE.cons rfl BlkLe.zero ?_))⟩
      · have hx := pq_next (b := true) hq2 hB
        repeat' (conv => whnf
                 first
                   | (refine Ob.mk (by (first | omega | (simp only [InK]; omega) | exact ⟨by omega, tdivIn (by omega) (by omega)⟩ | exact ⟨by first | omega | (simp only [InK]; omega), by first | omega | (simp only [InK]; omega)⟩)) ?_)
                   | (refine Cases.yes (by (first | assumption | exact decide_eq_true (by first | assumption | omega) | exact congrArg (!·) (decide_eq_false (by first | assumption | omega)) | exact congrArg (!·) (show _ = false by assumption) | rfl)) ?_)
                   | (refine Cases.no (by (first | assumption | exact decide_eq_false (by first | assumption | omega) | exact congrArg (!·) (decide_eq_true (by first | assumption | omega)) | exact congrArg (!·) (show _ = true by assumption) | rfl)) ?_)
                   | (refine Idx.mk ⟨_, rfl, by first | assumption | omega, ?_⟩)
                   | (refine Idx.mk ⟨0, rfl, by omega, ?_⟩)
                   | (refine DrawOb.start ?_)
                   | (refine TryF.fast rfl (by decide +kernel) (by kernel_rfl) ?_)
                   | (refine TryF.next rfl ?_)
                   | (refine TryF.other ?_)
                   | (refine TryG.go rfl (by decide +kernel) (by kernel_rfl) ?_)
                   | (refine TryG.next rfl ?_))
        exact ⟨q + 1, [], ⟨by omega, hq⟩, by show p - (q + 1) < p - q; omega, (by refine ⟨?_, ?_, rfl⟩ <;> repeat (first | exact TmE.nil | exact OwnE.nil | refine TmE.cons (by first | exact AvLe.refl _ | exact AvLe.int (by omega) | exact AvLe.bool (by first | rfl | assumption)) ?_ | refine OwnE.cons rfl (BlkLe.refl _) ?_ | refine OwnE.cons rfl BlkLe.zero ?_))⟩
    · obtain rfl : q = p := by omega
      have em : (n : Int).tmod q = ((n % q : Nat) : Int) := (Int.ofNat_tmod n q).symm
      by_cases hpr : Prm q ∧ q ∣ n
      · have hB : pq q q = true := (pq_prm hp2).2 hpr.1
        have hz : n % q = 0 := Nat.mod_eq_zero_of_dvd hpr.2
        have hst := parN_yes (lamF f) (n := n) (by omega) hpr.1 hpr.2
        have hbd := lam_pre f (n := n) (by omega) (ixN n (q + 1))
        have hb0 := lam_pre f (n := n) (by omega) (ixN n q)
        change 1 ≤ parN (lamF f) n (q + 1) ∧ parN (lamF f) n (q + 1) ≤ _ at hbd
        change 1 ≤ parN (lamF f) n q ∧ parN (lamF f) n q ≤ _ at hb0
        rw [hst] at hbd
        obtain ⟨m1, m2, m3, m4, m5, m6, m7⟩ := facs_bounds (show 0 < n by omega) (mem_mlt (by omega) hpr.1 hpr.2)
        have hpw : ∀ k, k ≤ mlt q n → q ^ k ≤ 1000000 := fun k hk => by
          have := Nat.pow_le_pow_right (show 0 < q by omega) hk
          omega
        have e1 : (mlt q n : Int).tdiv 2 = ((mlt q n / 2 : Nat) : Int) := (Int.ofNat_tdiv _ 2).symm
        have e2 : (mlt q n : Int).tmod 2 = ((mlt q n % 2 : Nat) : Int) := (Int.ofNat_tmod _ 2).symm
        have e3 : ((mlt q n : Int) - 1).tdiv 2 = (((mlt q n - 1) / 2 : Nat) : Int) := by rw [show (mlt q n : Int) - 1 = ((mlt q n - 1 : Nat) : Int) by omega]; exact (Int.ofNat_tdiv _ 2).symm
        have hcle : mlt q f ≤ mlt q n := by
          apply Nat.le_of_not_lt
          intro h
          have h1 := (facs_iff (by omega) _ _).1 (mem_mlt (show 0 < n by omega) hpr.1 hpr.2)
          exact h1.2.2.2 (Nat.dvd_trans (Nat.pow_dvd_pow _ h) (Nat.dvd_trans (mlt_dvd q f) hfn))
        by_cases c1 : mlt q n < 2 * mlt q f
        · have p1 := hpw (mlt q n - mlt q f) (by omega)
          obtain ⟨r, hr⟩ : ∃ r, r = q ^ (mlt q n - mlt q f) := ⟨_, rfl⟩
          have el : lamF f q (mlt q n) = 2 * (r : Int) := by unfold lamF; rw [if_pos c1, Int.natCast_mul, hr]; rfl
          rw [el] at hbd hst
          rw [← hr] at p1
          have HR := Lib.hid hr
          clear hr hpw el m6 m7
          repeat' (conv => whnf
                   first
                     | (refine Ob.mk (by (first | omega | (simp only [InK]; omega) | exact ⟨by omega, tdivIn (by omega) (by omega)⟩ | exact ⟨by first | omega | (simp only [InK]; omega), by first | omega | (simp only [InK]; omega)⟩)) ?_)
                     | (refine Cases.yes (by (first | assumption | exact decide_eq_true (by first | assumption | omega) | exact congrArg (!·) (decide_eq_false (by first | assumption | omega)) | exact congrArg (!·) (show _ = false by assumption) | rfl)) ?_)
                     | (refine Cases.no (by (first | assumption | exact decide_eq_false (by first | assumption | omega) | exact congrArg (!·) (decide_eq_true (by first | assumption | omega)) | exact congrArg (!·) (show _ = true by assumption) | rfl)) ?_)
                     | (refine Idx.mk ⟨_, rfl, by first | assumption | omega, ?_⟩)
                     | (refine Idx.mk ⟨0, rfl, by omega, ?_⟩)
                     | (refine DrawOb.start ?_)
                     | (refine TryF.fast rfl (by decide +kernel) (by kernel_rfl) ?_)
                     | (refine TryF.next rfl ?_)
                     | (refine TryF.other ?_)
                     | (refine TryG.go rfl (by decide +kernel) (by kernel_rfl) ?_)
                     | (refine TryG.next rfl ?_)
                     | (refine Sp.call (rexp_sp n q (by omega) (by omega) (by omega) (by omega)) (ArgsLe.refl _) rfl (AvLe.refl _) ?_)
                     | (refine Sp.call (rexp_sp f q (by omega) (by omega) (by omega) (by omega)) (ArgsLe.refl _) rfl (AvLe.refl _) ?_)
                     | (refine Sp.call (rpow_sp q (mlt q n - mlt q f) r HR (by omega) (by omega) (by omega) (by assumption)) (.cons (.refl _) (.cons (AvLe.int (by omega)) .nil)) rfl (AvLe.refl _) ?_))
          exact ⟨q + 1, [], ⟨by omega, by omega⟩, by show n + 3 - (q + 1) < n + 3 - q; omega, (by refine ⟨?_, ?_, rfl⟩ <;> repeat (first | exact TmE.nil | exact OwnE.nil | refine TmE.cons (by first | exact AvLe.refl _ | exact AvLe.int (by omega) | exact AvLe.bool (by first | rfl | assumption)) ?_ | refine OwnE.cons rfl (BlkLe.refl _) ?_ | refine OwnE.cons rfl BlkLe.zero ?_))⟩
        · by_cases c2 : mlt q n % 2 = 0
          · have p1 := hpw (mlt q n / 2) (by omega)
            have p2 := hpw (mlt q n / 2 - 1) (by omega)
            have hpe : 1 ≤ mlt q n / 2 := by omega
            obtain ⟨r, hr⟩ : ∃ r, r = q ^ (mlt q n / 2) := ⟨_, rfl⟩
            obtain ⟨s, hs⟩ : ∃ s, s = q ^ (mlt q n / 2 - 1) := ⟨_, rfl⟩
            have el : lamF f q (mlt q n) = (r : Int) + (s : Int) := by unfold lamF; rw [if_neg c1, if_pos c2, Int.natCast_add, hr, hs]
            rw [el] at hbd hst
            rw [← hr] at p1
            rw [← hs] at p2
            have HR := Lib.hid hr
            have HS := Lib.hid hs
            clear hr hs hpw el m6 m7
            repeat' (conv => whnf
                     first
                       | (refine Ob.mk (by (first | omega | (simp only [InK]; omega) | exact ⟨by omega, tdivIn (by omega) (by omega)⟩ | exact ⟨by first | omega | (simp only [InK]; omega), by first | omega | (simp only [InK]; omega)⟩)) ?_)
                       | (refine Cases.yes (by (first | assumption | exact decide_eq_true (by first | assumption | omega) | exact congrArg (!·) (decide_eq_false (by first | assumption | omega)) | exact congrArg (!·) (show _ = false by assumption) | rfl)) ?_)
                       | (refine Cases.no (by (first | assumption | exact decide_eq_false (by first | assumption | omega) | exact congrArg (!·) (decide_eq_true (by first | assumption | omega)) | exact congrArg (!·) (show _ = true by assumption) | rfl)) ?_)
                       | (refine Idx.mk ⟨_, rfl, by first | assumption | omega, ?_⟩)
                       | (refine Idx.mk ⟨0, rfl, by omega, ?_⟩)
                       | (refine DrawOb.start ?_)
                       | (refine TryF.fast rfl (by decide +kernel) (by kernel_rfl) ?_)
                       | (refine TryF.next rfl ?_)
                       | (refine TryF.other ?_)
                       | (refine TryG.go rfl (by decide +kernel) (by kernel_rfl) ?_)
                       | (refine TryG.next rfl ?_)
                       | (refine Sp.call (rexp_sp n q (by omega) (by omega) (by omega) (by omega)) (ArgsLe.refl _) rfl (AvLe.refl _) ?_)
                       | (refine Sp.call (rexp_sp f q (by omega) (by omega) (by omega) (by omega)) (ArgsLe.refl _) rfl (AvLe.refl _) ?_)
                       | (refine Sp.call (rpow_sp q (mlt q n / 2) r HR (by omega) (by omega) (by omega) (by assumption)) (.cons (.refl _) (.cons (AvLe.int (by first | assumption | omega)) .nil)) rfl (AvLe.refl _) ?_)
                       | (refine Sp.call (rpow_sp q (mlt q n / 2 - 1) s HS (by omega) (by omega) (by omega) (by assumption)) (.cons (.refl _) (.cons (AvLe.int (by omega)) .nil)) rfl (AvLe.refl _) ?_))
            exact ⟨q + 1, [], ⟨by omega, by omega⟩, by show n + 3 - (q + 1) < n + 3 - q; omega, (by refine ⟨?_, ?_, rfl⟩ <;> repeat (first | exact TmE.nil | exact OwnE.nil | refine TmE.cons (by first | exact AvLe.refl _ | exact AvLe.int (by omega) | exact AvLe.bool (by first | rfl | assumption)) ?_ | refine OwnE.cons rfl (BlkLe.refl _) ?_ | refine OwnE.cons rfl BlkLe.zero ?_))⟩
          · have p1 := hpw ((mlt q n - 1) / 2) (by omega)
            obtain ⟨r, hr⟩ : ∃ r, r = q ^ ((mlt q n - 1) / 2) := ⟨_, rfl⟩
            have el : lamF f q (mlt q n) = 2 * (r : Int) := by unfold lamF; rw [if_neg c1, if_neg c2, Int.natCast_mul, hr]; rfl
            rw [el] at hbd hst
            rw [← hr] at p1
            have HR := Lib.hid hr
            clear hr hpw el m6 m7
            repeat' (conv => whnf
                     first
                       | (refine Ob.mk (by (first | omega | (simp only [InK]; omega) | exact ⟨by omega, tdivIn (by omega) (by omega)⟩ | exact ⟨by first | omega | (simp only [InK]; omega), by first | omega | (simp only [InK]; omega)⟩)) ?_)
                       | (refine Cases.yes (by (first | assumption | exact decide_eq_true (by first | assumption | omega) | exact congrArg (!·) (decide_eq_false (by first | assumption | omega)) | exact congrArg (!·) (show _ = false by assumption) | rfl)) ?_)
                       | (refine Cases.no (by (first | assumption | exact decide_eq_false (by first | assumption | omega) | exact congrArg (!·) (decide_eq_true (by first | assumption | omega)) | exact congrArg (!·) (show _ = true by assumption) | rfl)) ?_)
                       | (refine Idx.mk ⟨_, rfl, by first | assumption | omega, ?_⟩)
                       | (refine Idx.mk ⟨0, rfl, by omega, ?_⟩)
                       | (refine DrawOb.start ?_)
                       | (refine TryF.fast rfl (by decide +kernel) (by kernel_rfl) ?_)
                       | (refine TryF.next rfl ?_)
                       | (refine TryF.other ?_)
                       | (refine TryG.go rfl (by decide +kernel) (by kernel_rfl) ?_)
                       | (refine TryG.next rfl ?_)
                       | (refine Sp.call (rexp_sp n q (by omega) (by omega) (by omega) (by omega)) (ArgsLe.refl _) rfl (AvLe.refl _) ?_)
                       | (refine Sp.call (rexp_sp f q (by omega) (by omega) (by omega) (by omega)) (ArgsLe.refl _) rfl (AvLe.refl _) ?_)
                       | (refine Sp.call (rpow_sp q ((mlt q n - 1) / 2) r HR (by omega) (by omega) (by omega) (by assumption)) (.cons (.refl _) (.cons (AvLe.int (by first | assumption | omega)) .nil)) rfl (AvLe.refl _) ?_))
            exact ⟨q + 1, [], ⟨by omega, by omega⟩, by show n + 3 - (q + 1) < n + 3 - q; omega, (by refine ⟨?_, ?_, rfl⟩ <;> repeat (first | exact TmE.nil | exact OwnE.nil | refine TmE.cons (by first | exact AvLe.refl _ | exact AvLe.int (by omega) | exact AvLe.bool (by first | rfl | assumption)) ?_ | refine OwnE.cons rfl (BlkLe.refl _) ?_ | refine OwnE.cons rfl BlkLe.zero ?_))⟩
      · have hs := parN_no (lamF f) (n := n) (by omega) hpr
        cases hB : pq q q
        · repeat' (conv => whnf
                   first
                     | (refine Ob.mk (by (first | omega | (simp only [InK]; omega) | exact ⟨by omega, tdivIn (by omega) (by omega)⟩ | exact ⟨by first | omega | (simp only [InK]; omega), by first | omega | (simp only [InK]; omega)⟩)) ?_)
                     | (refine Cases.yes (by (first | assumption | exact decide_eq_true (by first | assumption | omega) | exact congrArg (!·) (decide_eq_false (by first | assumption | omega)) | exact congrArg (!·) (show _ = false by assumption) | rfl)) ?_)
                     | (refine Cases.no (by (first | assumption | exact decide_eq_false (by first | assumption | omega) | exact congrArg (!·) (decide_eq_true (by first | assumption | omega)) | exact congrArg (!·) (show _ = true by assumption) | rfl)) ?_)
                     | (refine Idx.mk ⟨_, rfl, by first | assumption | omega, ?_⟩)
                     | (refine Idx.mk ⟨0, rfl, by omega, ?_⟩)
                     | (refine DrawOb.start ?_)
                     | (refine TryF.fast rfl (by decide +kernel) (by kernel_rfl) ?_)
                     | (refine TryF.next rfl ?_)
                     | (refine TryF.other ?_)
                     | (refine TryG.go rfl (by decide +kernel) (by kernel_rfl) ?_)
                     | (refine TryG.next rfl ?_))
          exact ⟨q + 1, [], ⟨by omega, by omega⟩, by show n + 3 - (q + 1) < n + 3 - q; omega, (by refine ⟨?_, ?_, rfl⟩ <;> repeat (first | exact TmE.nil | exact OwnE.nil | refine TmE.cons (by first | exact AvLe.refl _ | exact AvLe.int (by omega) | exact AvLe.bool (by first | rfl | assumption)) ?_ | refine OwnE.cons rfl (BlkLe.refl _) ?_ | refine OwnE.cons rfl BlkLe.zero ?_))⟩
        · have hz : n % q ≠ 0 := fun h => hpr ⟨(pq_prm hp2).1 hB, Nat.dvd_of_mod_eq_zero h⟩
          repeat' (conv => whnf
                   first
                     | (refine Ob.mk (by (first | omega | (simp only [InK]; omega) | exact ⟨by omega, tdivIn (by omega) (by omega)⟩ | exact ⟨by first | omega | (simp only [InK]; omega), by first | omega | (simp only [InK]; omega)⟩)) ?_)
                     | (refine Cases.yes (by (first | assumption | exact decide_eq_true (by first | assumption | omega) | exact congrArg (!·) (decide_eq_false (by first | assumption | omega)) | exact congrArg (!·) (show _ = false by assumption) | rfl)) ?_)
                     | (refine Cases.no (by (first | assumption | exact decide_eq_false (by first | assumption | omega) | exact congrArg (!·) (decide_eq_true (by first | assumption | omega)) | exact congrArg (!·) (show _ = true by assumption) | rfl)) ?_)
                     | (refine Idx.mk ⟨_, rfl, by first | assumption | omega, ?_⟩)
                     | (refine Idx.mk ⟨0, rfl, by omega, ?_⟩)
                     | (refine DrawOb.start ?_)
                     | (refine TryF.fast rfl (by decide +kernel) (by kernel_rfl) ?_)
                     | (refine TryF.next rfl ?_)
                     | (refine TryF.other ?_)
                     | (refine TryG.go rfl (by decide +kernel) (by kernel_rfl) ?_)
                     | (refine TryG.next rfl ?_))
          exact ⟨q + 1, [], ⟨by omega, by omega⟩, by show n + 3 - (q + 1) < n + 3 - q; omega, (by refine ⟨?_, ?_, rfl⟩ <;> repeat (first | exact TmE.nil | exact OwnE.nil | refine TmE.cons (by first | exact AvLe.refl _ | exact AvLe.int (by omega) | exact AvLe.bool (by first | rfl | assumption)) ?_ | refine OwnE.cons rfl (BlkLe.refl _) ?_ | refine OwnE.cons rfl BlkLe.zero ?_))⟩
  · have he := parN_end (lamF f) (n := n) (k := p) (by omega) (by omega)
    repeat' (conv => whnf
             first
               | (refine Ob.mk (by (first | omega | (simp only [InK]; omega) | exact ⟨by omega, tdivIn (by omega) (by omega)⟩ | exact ⟨by first | omega | (simp only [InK]; omega), by first | omega | (simp only [InK]; omega)⟩)) ?_)
               | (refine Cases.yes (by (first | assumption | exact decide_eq_true (by first | assumption | omega) | exact congrArg (!·) (decide_eq_false (by first | assumption | omega)) | exact congrArg (!·) (show _ = false by assumption) | rfl)) ?_)
               | (refine Cases.no (by (first | assumption | exact decide_eq_false (by first | assumption | omega) | exact congrArg (!·) (decide_eq_true (by first | assumption | omega)) | exact congrArg (!·) (show _ = true by assumption) | rfl)) ?_)
               | (refine Idx.mk ⟨_, rfl, by first | assumption | omega, ?_⟩)
               | (refine Idx.mk ⟨0, rfl, by omega, ?_⟩)
               | (refine DrawOb.start ?_)
               | (refine TryF.fast rfl (by decide +kernel) (by kernel_rfl) ?_)
               | (refine TryF.next rfl ?_)
               | (refine TryF.other ?_)
               | (refine TryG.go rfl (by decide +kernel) (by kernel_rfl) ?_)
               | (refine TryG.next rfl ?_))
    refine ⟨⟨_, _, rfl, rfl, AvLe.int ?_⟩⟩
    exact he
end Go.Proofs.YteamlpflgfmieaaDoor

/- States in letters: symbols, the formula, the cusp forms. -/
namespace Go.Proofs.YteamlpflgfmieaaDoor
open Go Go.RowKit Go.VG HP
def sqN (p r : Nat) : Bool := (List.range p).any fun x => x * x % p == r
theorem sq_all : allB 121 (fun p => !prmC p || p == 2 || allB p fun r => r == 0 || (if sqN p r then r ^ ((p - 1) / 2) % p == 1 else r ^ ((p - 1) / 2) % p == p - 1)) = true := by decide +kernel
def sqB (d : Int) (p : Nat) : Bool := (List.range (p - 1)).any fun x => decide ((((x + 1 : Nat) : Int) * ((x + 1 : Nat) : Int) - d) % p = 0)
def symV (d : Int) (p : Nat) : Int := if d.tmod p = 0 then 0 else if p = 2 then (if d % 8 = 1 ∨ d % 8 = 7 then 1 else -1) else if sqB d p then 1 else -1
theorem sqB_yes {d : Int} {p x : Nat} (h1 : 1 ≤ x) (h2 : x < p) (h : ((x : Int) * x - d) % p = 0) : sqB d p = true := by
  unfold sqB
  rw [List.any_eq_true]
  refine ⟨x - 1, List.mem_range.2 (by omega), ?_⟩
  rw [show x - 1 + 1 = x by omega]
  exact decide_eq_true h
theorem sqB_no {d : Int} {p : Nat} (h : ∀ x : Nat, 1 ≤ x → x < p → ((x : Int) * x - d) % p ≠ 0) : sqB d p = false := by
  unfold sqB
  rw [List.any_eq_false]
  intro x hx
  have := h (x + 1) (by omega) (by have := List.mem_range.1 hx; omega)
  simpa using this
theorem symV_kr {d : Int} {p : Nat} (hp : Prm p) (h120 : p ≤ 120) : symV d p = kr d p := by
  have h2 := hp.two_le
  have e0 : d.tmod p = 0 ↔ d % p = 0 := by
    constructor
    · intro h; exact Int.emod_eq_zero_of_dvd (Int.dvd_of_tmod_eq_zero h)
    · intro h; exact Int.tmod_eq_zero_of_dvd (Int.dvd_of_emod_eq_zero h)
  unfold symV kr
  by_cases hp2 : p = 2
  · subst hp2
    rw [if_pos rfl, if_pos rfl]
    unfold two
    have e0' : d.tmod (2 : Nat) = 0 ↔ d % 2 = 0 := e0
    by_cases hz : d % 2 = 0
    · rw [if_pos (e0'.2 hz), if_neg (by omega), if_neg (by omega)]
    · rw [if_neg fun h => hz (e0'.1 h)]
      by_cases h17 : d % 8 = 1 ∨ d % 8 = 7
      · rw [if_pos h17, if_pos h17]
      · rw [if_neg h17, if_neg h17, if_pos (by omega)]
  · rw [if_neg hp2, if_neg hp2]
    by_cases hz : d % p = 0
    · rw [if_pos (e0.2 hz), leg_zero hp hp2 (Int.dvd_of_emod_eq_zero hz)]
    · rw [if_neg fun h => hz (e0.1 h)]
      have hA := allB_at sq_all (show p < 121 by omega)
      rw [prm_prmC hp] at hA
      simp only [Bool.not_true, Bool.false_or, Bool.or_eq_true, beq_iff_eq] at hA
      have hA := hA.resolve_left hp2
      have hlt := Int.emod_lt_of_pos d (show (0 : Int) < p by omega)
      have hnn := Int.emod_nonneg d (show (p : Int) ≠ 0 by omega)
      obtain ⟨r, hr⟩ : ∃ r : Nat, (r : Int) = d % p := ⟨(d % p).toNat, by omega⟩
      have hR := allB_at hA (show r < p by omega)
      simp only [Bool.or_eq_true, beq_iff_eq] at hR
      have hR := hR.resolve_left (by omega)
      have hleg : leg d p = leg (r : Int) p := leg_congr hp hp2 (by rw [hr]; exact ⟨d / p, by have := Int.emod_add_mul_ediv d p; omega⟩)
      have ecast : ((r : Int) ^ ((p - 1) / 2)) % p = ((r ^ ((p - 1) / 2) % p : Nat) : Int) := by push_cast; rfl
      rw [hleg]
      unfold leg
      rw [ecast]
      have hiff : sqB d p = sqN p r := by
        rw [Bool.eq_iff_iff]
        have key : ∀ x : Nat, ((x : Int) * x - d) % p = 0 ↔ x * x % p = r := fun x => by
          have e1 : ((x * x % p : Nat) : Int) = ((x : Int) * x) % p := by push_cast; rfl
          constructor
          · intro h
            have := Int.emod_emod_of_dvd
            have h3 : ((x : Int) * x) % p = d % p := Int.emod_eq_emod_iff_emod_sub_eq_zero.2 h
            omega
          · intro h
            exact Int.emod_eq_emod_iff_emod_sub_eq_zero.1 (by rw [← e1, h, hr])
        unfold sqB sqN
        rw [List.any_eq_true, List.any_eq_true]
        constructor
        · rintro ⟨x, hx, h⟩
          exact ⟨x + 1, List.mem_range.2 (by have := List.mem_range.1 hx; omega), beq_iff_eq.2 ((key (x + 1)).1 (of_decide_eq_true h))⟩
        · rintro ⟨x, hx, h⟩
          have h := beq_iff_eq.1 h
          have hx0 : x ≠ 0 := by
            rintro rfl
            simp at h
            omega
          exact ⟨x - 1, List.mem_range.2 (by have := List.mem_range.1 hx; omega), by rw [show x - 1 + 1 = x by omega]; exact decide_eq_true ((key x).2 h)⟩
      rw [hiff]
      split at hR
      · next hs =>
        rw [hs, if_pos rfl, beq_iff_eq.1 hR, if_neg (by omega)]
        rfl
      · next hs =>
        rw [if_neg hs, beq_iff_eq.1 hR, if_pos (by omega)]
set_option maxHeartbeats 4000000 in
theorem symbol_sp (d : Int) (p : Nat) (h1 : -1000000 ≤ d) (h2 : d ≤ 1000000) (hp : 2 ≤ p) (hp2 : p ≤ 1000) : Sp CX 66 [int .i64 d, int .i64 p] (int .i64 (symV d p)) := by
  refine fn_spec (C := CX) ⟨34, [], []⟩ [] tysX_ok mixed Tryd.func66 rfl (by kernel_rfl) Tryd.ntmps66 (by kernel_rfl) rfl ?_
  unfold symV
  by_cases c1 : d.tmod p = 0
  · rw [if_pos c1]
    repeat' (conv => whnf
             first
               | (refine Ob.mk (by (first | omega | (simp only [InK]; omega) | exact ⟨by omega, tdivIn (by omega) (by omega)⟩ | exact ⟨by first | omega | (simp only [InK]; omega), by first | omega | (simp only [InK]; omega)⟩)) ?_)
               | (refine Cases.yes (by (first | assumption | exact decide_eq_true (by first | assumption | omega) | exact congrArg (!·) (decide_eq_false (by first | assumption | omega)) | exact congrArg (!·) (show _ = false by assumption) | rfl)) ?_)
               | (refine Cases.no (by (first | assumption | exact decide_eq_false (by first | assumption | omega) | exact congrArg (!·) (decide_eq_true (by first | assumption | omega)) | exact congrArg (!·) (show _ = true by assumption) | rfl)) ?_)
               | (refine Idx.mk ⟨_, rfl, by first | assumption | omega, ?_⟩)
               | (refine Idx.mk ⟨0, rfl, by omega, ?_⟩)
               | (refine DrawOb.start ?_)
               | (refine TryF.fast rfl (by decide +kernel) (by kernel_rfl) ?_)
               | (refine TryF.next rfl ?_)
               | (refine TryF.other ?_)
               | (refine TryG.go rfl (by decide +kernel) (by kernel_rfl) ?_)
               | (refine TryG.next rfl ?_))
    refine ⟨⟨_, _, rfl, rfl, AvLe.int ?_⟩⟩
    rfl
  · rw [if_neg c1]
    by_cases c2 : p = 2
    · subst c2
      rw [if_pos rfl]
      by_cases c3 : d % 8 = 1
      · rw [if_pos (.inl c3)]
        repeat' (conv => whnf
                 first
                   | (refine Ob.mk (by (first | omega | (simp only [InK]; omega) | exact ⟨by omega, tdivIn (by omega) (by omega)⟩ | exact ⟨by first | omega | (simp only [InK]; omega), by first | omega | (simp only [InK]; omega)⟩)) ?_)
                   | (refine Cases.yes (by (first | assumption | exact decide_eq_true (by first | assumption | omega) | exact congrArg (!·) (decide_eq_false (by first | assumption | omega)) | exact congrArg (!·) (show _ = false by assumption) | rfl)) ?_)
                   | (refine Cases.no (by (first | assumption | exact decide_eq_false (by first | assumption | omega) | exact congrArg (!·) (decide_eq_true (by first | assumption | omega)) | exact congrArg (!·) (show _ = true by assumption) | rfl)) ?_)
                   | (refine Idx.mk ⟨_, rfl, by first | assumption | omega, ?_⟩)
                   | (refine Idx.mk ⟨0, rfl, by omega, ?_⟩)
                   | (refine DrawOb.start ?_)
                   | (refine TryF.fast rfl (by decide +kernel) (by kernel_rfl) ?_)
                   | (refine TryF.next rfl ?_)
                   | (refine TryF.other ?_)
                   | (refine TryG.go rfl (by decide +kernel) (by kernel_rfl) ?_)
                   | (refine TryG.next rfl ?_)
                   | (refine Sp.call (mod_sp d 8 (by omega) (by omega) (by omega) (by omega)) (ArgsLe.refl _) rfl (AvLe.refl _) ?_))
        refine ⟨⟨_, _, rfl, rfl, AvLe.int ?_⟩⟩
        rfl
      · by_cases c4 : d % 8 = 7
        · rw [if_pos (.inr c4)]
          repeat' (conv => whnf
                   first
                     | (refine Ob.mk (by (first | omega | (simp only [InK]; omega) | exact ⟨by omega, tdivIn (by omega) (by omega)⟩ | exact ⟨by first | omega | (simp only [InK]; omega), by first | omega | (simp only [InK]; omega)⟩)) ?_)
                     | (refine Cases.yes (by (first | assumption | exact decide_eq_true (by first | assumption | omega) | exact congrArg (!·) (decide_eq_false (by first | assumption | omega)) | exact congrArg (!·) (show _ = false by assumption) | rfl)) ?_)
                     | (refine Cases.no (by (first | assumption | exact decide_eq_false (by first | assumption | omega) | exact congrArg (!·) (decide_eq_true (by first | assumption | omega)) | exact congrArg (!·) (show _ = true by assumption) | rfl)) ?_)
                     | (refine Idx.mk ⟨_, rfl, by first | assumption | omega, ?_⟩)
                     | (refine Idx.mk ⟨0, rfl, by omega, ?_⟩)
                     | (refine DrawOb.start ?_)
                     | (refine TryF.fast rfl (by decide +kernel) (by kernel_rfl) ?_)
                     | (refine TryF.next rfl ?_)
                     | (refine TryF.other ?_)
                     | (refine TryG.go rfl (by decide +kernel) (by kernel_rfl) ?_)
                     | (refine TryG.next rfl ?_)
                     | (refine Sp.call (mod_sp d 8 (by omega) (by omega) (by omega) (by omega)) (ArgsLe.refl _) rfl (AvLe.refl _) ?_))
          refine ⟨⟨_, _, rfl, rfl, AvLe.int ?_⟩⟩
          rfl
        · rw [if_neg (by omega)]
          repeat' (conv => whnf
                   first
                     | (refine Ob.mk (by (first | omega | (simp only [InK]; omega) | exact ⟨by omega, tdivIn (by omega) (by omega)⟩ | exact ⟨by first | omega | (simp only [InK]; omega), by first | omega | (simp only [InK]; omega)⟩)) ?_)
                     | (refine Cases.yes (by (first | assumption | exact decide_eq_true (by first | assumption | omega) | exact congrArg (!·) (decide_eq_false (by first | assumption | omega)) | exact congrArg (!·) (show _ = false by assumption) | rfl)) ?_)
                     | (refine Cases.no (by (first | assumption | exact decide_eq_false (by first | assumption | omega) | exact congrArg (!·) (decide_eq_true (by first | assumption | omega)) | exact congrArg (!·) (show _ = true by assumption) | rfl)) ?_)
                     | (refine Idx.mk ⟨_, rfl, by first | assumption | omega, ?_⟩)
                     | (refine Idx.mk ⟨0, rfl, by omega, ?_⟩)
                     | (refine DrawOb.start ?_)
                     | (refine TryF.fast rfl (by decide +kernel) (by kernel_rfl) ?_)
                     | (refine TryF.next rfl ?_)
                     | (refine TryF.other ?_)
                     | (refine TryG.go rfl (by decide +kernel) (by kernel_rfl) ?_)
                     | (refine TryG.next rfl ?_)
                     | (refine Sp.call (mod_sp d 8 (by omega) (by omega) (by omega) (by omega)) (ArgsLe.refl _) rfl (AvLe.refl _) ?_))
          refine ⟨⟨_, _, rfl, rfl, AvLe.int ?_⟩⟩
          rfl
    · rw [if_neg c2]
      repeat' (conv => whnf
               first
                 | (refine Ob.mk (by (first | omega | (simp only [InK]; omega) | exact ⟨by omega, tdivIn (by omega) (by omega)⟩ | exact ⟨by first | omega | (simp only [InK]; omega), by first | omega | (simp only [InK]; omega)⟩)) ?_)
                 | (refine Cases.yes (by (first | assumption | exact decide_eq_true (by first | assumption | omega) | exact congrArg (!·) (decide_eq_false (by first | assumption | omega)) | exact congrArg (!·) (show _ = false by assumption) | rfl)) ?_)
                 | (refine Cases.no (by (first | assumption | exact decide_eq_false (by first | assumption | omega) | exact congrArg (!·) (decide_eq_true (by first | assumption | omega)) | exact congrArg (!·) (show _ = true by assumption) | rfl)) ?_)
                 | (refine Idx.mk ⟨_, rfl, by first | assumption | omega, ?_⟩)
                 | (refine Idx.mk ⟨0, rfl, by omega, ?_⟩)
                 | (refine DrawOb.start ?_)
                 | (refine TryF.fast rfl (by decide +kernel) (by kernel_rfl) ?_)
                 | (refine TryF.next rfl ?_)
                 | (refine TryF.other ?_)
                 | (refine TryG.go rfl (by decide +kernel) (by kernel_rfl) ?_)
                 | (refine TryG.next rfl ?_))
      refine ⟨⟨Nat, fun x => ⟨[(0, int .i64 d), (1, int .i64 p), (6, int .i64 x)], [], 0⟩, fun x => 1 ≤ x ∧ x ≤ p ∧ Hid (∀ y : Nat, 1 ≤ y → y < x → ((y : Int) * y - d) % p ≠ 0), fun x => p - x, ⟨1, [], ⟨Nat.le_refl _, by omega, fun y a b => by omega⟩, (by refine ⟨?_, ?_, rfl⟩ <;> repeat (first | exact TmE.nil | exact OwnE.nil | refine TmE.cons (by first | exact AvLe.refl _ | exact AvLe.int (by omega) | exact AvLe.bool (by first | rfl | assumption)) ?_ | refine OwnE.cons rfl (BlkLe.refl _) ?_ | refine OwnE.cons rfl BlkLe.zero ?_))⟩, ?_⟩⟩
      rintro x ⟨k1, k2, k3⟩
      have hsq : (x : Int) * x ≤ 1000 * 1000 := Int.mul_le_mul (by omega) (by omega) (by omega) (by omega)
      have hs0 : 0 ≤ (x : Int) * x := Int.mul_nonneg (by omega) (by omega)
      by_cases hx : x < p
      · by_cases hz : ((x : Int) * x - d) % p = 0
        · have hy := sqB_yes k1 hx hz
          repeat' (conv => whnf
                   first
                     | (refine Ob.mk (by (first | omega | (simp only [InK]; omega) | exact ⟨by omega, tdivIn (by omega) (by omega)⟩ | exact ⟨by first | omega | (simp only [InK]; omega), by first | omega | (simp only [InK]; omega)⟩)) ?_)
                     | (refine Cases.yes (by (first | assumption | exact decide_eq_true (by first | assumption | omega) | exact congrArg (!·) (decide_eq_false (by first | assumption | omega)) | exact congrArg (!·) (show _ = false by assumption) | rfl)) ?_)
                     | (refine Cases.no (by (first | assumption | exact decide_eq_false (by first | assumption | omega) | exact congrArg (!·) (decide_eq_true (by first | assumption | omega)) | exact congrArg (!·) (show _ = true by assumption) | rfl)) ?_)
                     | (refine Idx.mk ⟨_, rfl, by first | assumption | omega, ?_⟩)
                     | (refine Idx.mk ⟨0, rfl, by omega, ?_⟩)
                     | (refine DrawOb.start ?_)
                     | (refine TryF.fast rfl (by decide +kernel) (by kernel_rfl) ?_)
                     | (refine TryF.next rfl ?_)
                     | (refine TryF.other ?_)
                     | (refine TryG.go rfl (by decide +kernel) (by kernel_rfl) ?_)
                     | (refine TryG.next rfl ?_)
                     | (refine Sp.call (mod_sp ((x : Int) * x - d) p (by omega) (by omega) (by omega) (by omega)) (ArgsLe.refl _) rfl (AvLe.refl _) ?_))
          refine ⟨⟨_, _, rfl, rfl, AvLe.int ?_⟩⟩
          rw [if_pos hy]
        · repeat' (conv => whnf
                   first
                     | (refine Ob.mk (by (first | omega | (simp only [InK]; omega) | exact ⟨by omega, tdivIn (by omega) (by omega)⟩ | exact ⟨by first | omega | (simp only [InK]; omega), by first | omega | (simp only [InK]; omega)⟩)) ?_)
                     | (refine Cases.yes (by (first | assumption | exact decide_eq_true (by first | assumption | omega) | exact congrArg (!·) (decide_eq_false (by first | assumption | omega)) | exact congrArg (!·) (show _ = false by assumption) | rfl)) ?_)
                     | (refine Cases.no (by (first | assumption | exact decide_eq_false (by first | assumption | omega) | exact congrArg (!·) (decide_eq_true (by first | assumption | omega)) | exact congrArg (!·) (show _ = true by assumption) | rfl)) ?_)
                     | (refine Idx.mk ⟨_, rfl, by first | assumption | omega, ?_⟩)
                     | (refine Idx.mk ⟨0, rfl, by omega, ?_⟩)
                     | (refine DrawOb.start ?_)
                     | (refine TryF.fast rfl (by decide +kernel) (by kernel_rfl) ?_)
                     | (refine TryF.next rfl ?_)
                     | (refine TryF.other ?_)
                     | (refine TryG.go rfl (by decide +kernel) (by kernel_rfl) ?_)
                     | (refine TryG.next rfl ?_)
                     | (refine Sp.call (mod_sp ((x : Int) * x - d) p (by omega) (by omega) (by omega) (by omega)) (ArgsLe.refl _) rfl (AvLe.refl _) ?_))
          exact ⟨x + 1, [], ⟨by omega, by omega, fun y a b => by
            by_cases hd : y = x
            · subst hd; exact hz
            · exact k3.out y a (by omega)⟩, by show p - (x + 1) < p - x; omega, (by refine ⟨?_, ?_, rfl⟩ <;> repeat (first | exact TmE.nil | exact OwnE.nil | refine TmE.cons (by first | exact AvLe.refl _ | exact AvLe.int (by omega) | exact AvLe.bool (by first | rfl | assumption)) ?_ | refine OwnE.cons rfl (BlkLe.refl _) ?_ | refine OwnE.cons rfl BlkLe.zero ?_))⟩
      · obtain rfl : x = p := by omega
        have hn := sqB_no k3.out
        repeat' (conv => whnf
                 first
                   | (refine Ob.mk (by (first | omega | (simp only [InK]; omega) | exact ⟨by omega, tdivIn (by omega) (by omega)⟩ | exact ⟨by first | omega | (simp only [InK]; omega), by first | omega | (simp only [InK]; omega)⟩)) ?_)
                   | (refine Cases.yes (by (first | assumption | exact decide_eq_true (by first | assumption | omega) | exact congrArg (!·) (decide_eq_false (by first | assumption | omega)) | exact congrArg (!·) (show _ = false by assumption) | rfl)) ?_)
                   | (refine Cases.no (by (first | assumption | exact decide_eq_false (by first | assumption | omega) | exact congrArg (!·) (decide_eq_true (by first | assumption | omega)) | exact congrArg (!·) (show _ = true by assumption) | rfl)) ?_)
                   | (refine Idx.mk ⟨_, rfl, by first | assumption | omega, ?_⟩)
                   | (refine Idx.mk ⟨0, rfl, by omega, ?_⟩)
                   | (refine DrawOb.start ?_)
                   | (refine TryF.fast rfl (by decide +kernel) (by kernel_rfl) ?_)
                   | (refine TryF.next rfl ?_)
                   | (refine TryF.other ?_)
                   | (refine TryG.go rfl (by decide +kernel) (by kernel_rfl) ?_)
                   | (refine TryG.next rfl ?_))
        refine ⟨⟨_, _, rfl, rfl, AvLe.int ?_⟩⟩
        rw [if_neg (by rw [hn]; simp)]
end Go.Proofs.YteamlpflgfmieaaDoor

/- States in letters: Kronecker's symbol of the reference; the formulas. -/
namespace Go.Proofs.YteamlpflgfmieaaDoor
open Go Go.RowKit Go.VG HP
theorem jac_out {d : Int} {a p : Nat} (hp : Prm p) (h120 : p ≤ 120) (ha : 0 < a) (hd : a % p = 0) : jac d a = symV d p * jac d (a / p) := by
  have e : a = p * (a / p) := by have := Nat.div_add_mod a p; omega
  have hpos : 0 < a / p := Nat.div_pos (Nat.le_of_dvd ha (Nat.dvd_of_mod_eq_zero hd)) hp.pos
  rw [symV_kr hp h120]
  conv => lhs; rw [e]
  exact ext_prime_mul _ hp _ hpos
set_option maxHeartbeats 4000000 in
theorem kron28_sp (d : Int) (A : Nat) (h1 : -1000000 ≤ d) (h2 : d ≤ 1000000) (hA : 1 ≤ A) (hA2 : A ≤ 120) : Sp CX 40 [int .i64 d, int .i64 A] (int .i64 (jac d A)) := by
  refine fn_sp (C := CX) [] [] tysX_ok mixed Tryd.func40 rfl (by kernel_rfl) Tryd.ntmps40 rfl rfl ?_
  repeat' (conv => whnf
           first
             | (refine Ob.mk (by (first | omega | (simp only [InK]; omega) | exact ⟨by omega, tdivIn (by omega) (by omega)⟩ | exact ⟨by first | omega | (simp only [InK]; omega), by first | omega | (simp only [InK]; omega)⟩)) ?_)
             | (refine Cases.yes (by (first | assumption | exact decide_eq_true (by first | assumption | omega) | exact congrArg (!·) (decide_eq_false (by first | assumption | omega)) | exact congrArg (!·) (show _ = false by assumption) | rfl)) ?_)
             | (refine Cases.no (by (first | assumption | exact decide_eq_false (by first | assumption | omega) | exact congrArg (!·) (decide_eq_true (by first | assumption | omega)) | exact congrArg (!·) (show _ = true by assumption) | rfl)) ?_)
             | (refine Idx.mk ⟨_, rfl, by first | assumption | omega, ?_⟩)
             | (refine Idx.mk ⟨0, rfl, by omega, ?_⟩)
             | (refine DrawOb.start ?_)
             | (refine TryF.fast rfl (by decide +kernel) (by kernel_rfl) ?_)
             | (refine TryF.next rfl ?_)
             | (refine TryF.other ?_)
             | (refine TryG.go rfl (by decide +kernel) (by kernel_rfl) ?_)
             | (refine TryG.next rfl ?_))
  refine ⟨⟨Nat × Int × Nat, fun (a, o, p) => ⟨[(0, int .i64 d), (1, int .i64 a), (5, int .i64 o), (6, int .i64 p)], [], 0⟩, fun (a, o, p) => 0 < a ∧ a ≤ A ∧ 2 ≤ p ∧ p ≤ A + 2 ∧ Rough p a ∧ Tri o ∧ Hid (jac d A = o * jac d a), fun (_, _, p) => A + 3 - p, ⟨(A, 1, 2), [], ⟨hA, Nat.le_refl _, Nat.le_refl _, by omega, rough_two A, .inr (.inl rfl), (Int.one_mul _).symm⟩, (by refine ⟨?_, ?_, rfl⟩ <;> repeat (first | exact TmE.nil | exact OwnE.nil | refine TmE.cons (by first | exact AvLe.refl _ | exact AvLe.int (by omega) | exact AvLe.bool (by first | rfl | assumption)) ?_ | refine OwnE.cons rfl (BlkLe.refl _) ?_ | refine OwnE.cons rfl BlkLe.zero ?_))⟩, ?_⟩⟩
  rintro ⟨a, o, p⟩ ⟨k1, k2, k3, k4, k5, k6, k7⟩
  by_cases ha : 1 < a
  · have hle : p ≤ a := rough_le (by omega) k5
    repeat' (conv => whnf
             first
               | (refine Ob.mk (by (first | omega | (simp only [InK]; omega) | exact ⟨by omega, tdivIn (by omega) (by omega)⟩ | exact ⟨by first | omega | (simp only [InK]; omega), by first | omega | (simp only [InK]; omega)⟩)) ?_)
               | (refine Cases.yes (by (first | assumption | exact decide_eq_true (by first | assumption | omega) | exact congrArg (!·) (decide_eq_false (by first | assumption | omega)) | exact congrArg (!·) (show _ = false by assumption) | rfl)) ?_)
               | (refine Cases.no (by (first | assumption | exact decide_eq_false (by first | assumption | omega) | exact congrArg (!·) (decide_eq_true (by first | assumption | omega)) | exact congrArg (!·) (show _ = true by assumption) | rfl)) ?_)
               | (refine Idx.mk ⟨_, rfl, by first | assumption | omega, ?_⟩)
               | (refine Idx.mk ⟨0, rfl, by omega, ?_⟩)
               | (refine DrawOb.start ?_)
               | (refine TryF.fast rfl (by decide +kernel) (by kernel_rfl) ?_)
               | (refine TryF.next rfl ?_)
               | (refine TryF.other ?_)
               | (refine TryG.go rfl (by decide +kernel) (by kernel_rfl) ?_)
               | (refine TryG.next rfl ?_))
    refine ⟨⟨Nat × Int, fun (b, o) => ⟨[(0, int .i64 d), (1, int .i64 b), (5, int .i64 o), (6, int .i64 p)], [], 0⟩, fun (b, o) => 0 < b ∧ b ≤ A ∧ Rough p b ∧ Tri o ∧ Hid (jac d A = o * jac d b), fun (b, _) => b, ⟨(a, o), [], ⟨k1, k2, k5, k6, k7⟩, (by refine ⟨?_, ?_, rfl⟩ <;> repeat (first | exact TmE.nil | exact OwnE.nil | refine TmE.cons (by first | exact AvLe.refl _ | exact AvLe.int (by omega) | exact AvLe.bool (by first | rfl | assumption)) ?_ | refine OwnE.cons rfl (BlkLe.refl _) ?_ | refine OwnE.cons rfl BlkLe.zero ?_))⟩, ?_⟩⟩
    rintro ⟨b, o2⟩ ⟨m1, m2, m3, m4, m5⟩
    have em : (b : Int).tmod p = ((b % p : Nat) : Int) := (Int.ofNat_tmod b p).symm
    have eq : (b : Int).tdiv p = ((b / p : Nat) : Int) := (Int.ofNat_tdiv b p).symm
    by_cases hd : b % p = 0
    · have hpr := (facs_round k3 m1 m3 (Nat.dvd_of_mod_eq_zero hd)).2
      have hj := jac_out (d := d) hpr (by omega) m1 hd
      have hlb : p ≤ b := Nat.le_of_dvd m1 (Nat.dvd_of_mod_eq_zero hd)
      have hdv : 0 < b / p := Nat.div_pos hlb (by omega)
      have hlt : b / p < b := Nat.div_lt_self m1 (by omega)
      have ht : Tri (o2 * symV d p) := m4.mul (by rw [symV_kr hpr (by omega)]; exact kr_tri hpr d)
      have hi : -1 ≤ o2 * symV d p ∧ o2 * symV d p ≤ 1 := by rcases ht with h | h | h <;> omega
      have hr : Rough p (b / p) := rough_dvd m3 (Nat.div_dvd_of_dvd (Nat.dvd_of_mod_eq_zero hd))
      have hm : jac d A = o2 * symV d p * jac d (b / p) := by rw [m5.out, hj, Int.mul_assoc]
      have HM := Lib.hid hm
      clear hm hj ht m5 k7
      repeat' (conv => whnf
               first
                 | (refine Ob.mk (by (first | omega | (simp only [InK]; omega) | exact ⟨by omega, tdivIn (by omega) (by omega)⟩ | exact ⟨by first | omega | (simp only [InK]; omega), by first | omega | (simp only [InK]; omega)⟩)) ?_)
                 | (refine Cases.yes (by (first | assumption | exact decide_eq_true (by first | assumption | omega) | exact congrArg (!·) (decide_eq_false (by first | assumption | omega)) | exact congrArg (!·) (show _ = false by assumption) | rfl)) ?_)
                 | (refine Cases.no (by (first | assumption | exact decide_eq_false (by first | assumption | omega) | exact congrArg (!·) (decide_eq_true (by first | assumption | omega)) | exact congrArg (!·) (show _ = true by assumption) | rfl)) ?_)
                 | (refine Idx.mk ⟨_, rfl, by first | assumption | omega, ?_⟩)
                 | (refine Idx.mk ⟨0, rfl, by omega, ?_⟩)
                 | (refine DrawOb.start ?_)
                 | (refine TryF.fast rfl (by decide +kernel) (by kernel_rfl) ?_)
                 | (refine TryF.next rfl ?_)
                 | (refine TryF.other ?_)
                 | (refine TryG.go rfl (by decide +kernel) (by kernel_rfl) ?_)
                 | (refine TryG.next rfl ?_)
                 | (refine Sp.call (symbol_sp d p (by omega) (by omega) (by omega) (by omega)) (ArgsLe.refl _) rfl (AvLe.refl _) ?_))
      exact ⟨(b / p, o2 * symV d p), [], ⟨hdv, by omega, hr, by rcases hi with ⟨x, y⟩; unfold Tri; omega, HM.out⟩, hlt, (by refine ⟨?_, ?_, rfl⟩ <;> repeat (first | exact TmE.nil | exact OwnE.nil | refine TmE.cons (by first | exact AvLe.refl _ | exact AvLe.int (by omega) | exact AvLe.bool (by first | rfl | assumption)) ?_ | refine OwnE.cons rfl (BlkLe.refl _) ?_ | refine OwnE.cons rfl BlkLe.zero ?_))⟩
    · have hr : Rough (p + 1) b := rough_next m3 fun h => hd (Nat.mod_eq_zero_of_dvd h)
      repeat' (conv => whnf
               first
                 | (refine Ob.mk (by (first | omega | (simp only [InK]; omega) | exact ⟨by omega, tdivIn (by omega) (by omega)⟩ | exact ⟨by first | omega | (simp only [InK]; omega), by first | omega | (simp only [InK]; omega)⟩)) ?_)
                 | (refine Cases.yes (by (first | assumption | exact decide_eq_true (by first | assumption | omega) | exact congrArg (!·) (decide_eq_false (by first | assumption | omega)) | exact congrArg (!·) (show _ = false by assumption) | rfl)) ?_)
                 | (refine Cases.no (by (first | assumption | exact decide_eq_false (by first | assumption | omega) | exact congrArg (!·) (decide_eq_true (by first | assumption | omega)) | exact congrArg (!·) (show _ = true by assumption) | rfl)) ?_)
                 | (refine Idx.mk ⟨_, rfl, by first | assumption | omega, ?_⟩)
                 | (refine Idx.mk ⟨0, rfl, by omega, ?_⟩)
                 | (refine DrawOb.start ?_)
                 | (refine TryF.fast rfl (by decide +kernel) (by kernel_rfl) ?_)
                 | (refine TryF.next rfl ?_)
                 | (refine TryF.other ?_)
                 | (refine TryG.go rfl (by decide +kernel) (by kernel_rfl) ?_)
                 | (refine TryG.next rfl ?_))
      exact ⟨(b, o2, p + 1), [], ⟨m1, m2, by omega, by omega, hr, m4, m5⟩, by show A + 3 - (p + 1) < A + 3 - p; omega, (by refine ⟨?_, ?_, rfl⟩ <;> repeat (first | exact TmE.nil | exact OwnE.nil | refine TmE.cons (by first | exact AvLe.refl _ | exact AvLe.int (by omega) | exact AvLe.bool (by first | rfl | assumption)) ?_ | refine OwnE.cons rfl (BlkLe.refl _) ?_ | refine OwnE.cons rfl BlkLe.zero ?_))⟩
  · obtain rfl : a = 1 := by omega
    have e := k7.out
    rw [jac_one, Int.mul_one] at e
    repeat' (conv => whnf
             first
               | (refine Ob.mk (by (first | omega | (simp only [InK]; omega) | exact ⟨by omega, tdivIn (by omega) (by omega)⟩ | exact ⟨by first | omega | (simp only [InK]; omega), by first | omega | (simp only [InK]; omega)⟩)) ?_)
               | (refine Cases.yes (by (first | assumption | exact decide_eq_true (by first | assumption | omega) | exact congrArg (!·) (decide_eq_false (by first | assumption | omega)) | exact congrArg (!·) (show _ = false by assumption) | rfl)) ?_)
               | (refine Cases.no (by (first | assumption | exact decide_eq_false (by first | assumption | omega) | exact congrArg (!·) (decide_eq_true (by first | assumption | omega)) | exact congrArg (!·) (show _ = true by assumption) | rfl)) ?_)
               | (refine Idx.mk ⟨_, rfl, by first | assumption | omega, ?_⟩)
               | (refine Idx.mk ⟨0, rfl, by omega, ?_⟩)
               | (refine DrawOb.start ?_)
               | (refine TryF.fast rfl (by decide +kernel) (by kernel_rfl) ?_)
               | (refine TryF.next rfl ?_)
               | (refine TryF.other ?_)
               | (refine TryG.go rfl (by decide +kernel) (by kernel_rfl) ?_)
               | (refine TryG.next rfl ?_))
    refine ⟨⟨_, _, rfl, rfl, AvLe.int ?_⟩⟩
    exact e.symm
/-- the numbers that Psi and lambda may take -/
theorem psi_small {n : Nat} (h1 : 1 ≤ n) (h2 : n ≤ 120) : 1 ≤ psi n ∧ psi n ≤ 400 := by
  have h : allB 121 (fun n => decide (n = 0) || (decide (1 ≤ prodC psiF n) && decide (prodC psiF n ≤ 400))) = true := by decide +kernel
  have := allB_at h (show n < 121 by omega)
  simp only [Bool.or_eq_true, Bool.and_eq_true, decide_eq_true_eq] at this
  rw [psi_C h1 h2]
  exact this.resolve_left (by omega)
theorem lam_small {n f : Nat} (h1 : 1 ≤ n) (h2 : n ≤ 120) : 1 ≤ lam f n ∧ lam f n ≤ 14400 := by
  obtain ⟨a, b⟩ := lam_bd f (n := n) (by omega)
  have : (n : Int) * n ≤ 120 * 120 := Int.mul_le_mul (by omega) (by omega) (by omega) (by omega)
  omega
theorem mul_small {n k : Nat} (h1 : 1 ≤ n) (h2 : n ≤ 120) (hk : 1 ≤ k) (hk2 : k ≤ 24) : 0 ≤ ((k : Int) - 1) * psi n ∧ ((k : Int) - 1) * psi n ≤ 10000 := by
  obtain ⟨a, b⟩ := psi_small h1 h2
  refine ⟨Int.mul_nonneg (by omega) (by omega), ?_⟩
  have : ((k : Int) - 1) * psi n ≤ 23 * 400 := Int.mul_le_mul (by omega) (by omega) (by omega) (by omega)
  omega
set_option maxHeartbeats 8000000 in
set_option maxRecDepth 20000 in
theorem formula_sp (n k f : Nat) (four three : Int) (hn0 : 1 ≤ n) (hn : n ≤ 120) (hf0 : 1 ≤ f) (hf : f ≤ 120) (hfn : f ∣ n) (hk : 2 ≤ k) (hk2 : k ≤ 24) (h1 : -1000000 ≤ four) (h2 : four ≤ 1000000) (h3 : -1000000 ≤ three) (h4 : three ≤ 1000000) : Sp CX 41 [int .i64 n, int .i64 k, int .i64 f, int .i64 four, int .i64 three] (int .i64 ((dim12 n k f four three).tdiv 12)) := by
  refine fn_sp (C := CX) [] [] tysX_ok mixed Tryd.func41 rfl (by kernel_rfl) Tryd.ntmps41 rfl rfl ?_
  have hm := mul_small hn0 hn (show 1 ≤ k by omega) hk2
  have hl := lam_small (f := f) hn0 hn
  have e4 : (k : Int).tmod 4 = ((k % 4 : Nat) : Int) := (Int.ofNat_tmod k 4).symm
  have e3 : (k : Int).tmod 3 = ((k % 3 : Nat) : Int) := (Int.ofNat_tmod k 3).symm
  have hb : ∀ x : Int, -10000000 ≤ x → x ≤ 10000000 → -10000000 ≤ x.tdiv 12 ∧ x.tdiv 12 ≤ 10000000 := fun x a b => tdiv_bd a b
  repeat' (conv => whnf
           first
             | (refine Ob.mk (by (first | omega | (simp only [InK]; omega) | exact ⟨by omega, tdivIn (by omega) (by omega)⟩ | exact ⟨by first | omega | (simp only [InK]; omega), by first | omega | (simp only [InK]; omega)⟩)) ?_)
             | (refine Cases.yes (by (first | assumption | exact decide_eq_true (by first | assumption | omega) | exact congrArg (!·) (decide_eq_false (by first | assumption | omega)) | exact congrArg (!·) (show _ = false by assumption) | rfl)) ?_)
             | (refine Cases.no (by (first | assumption | exact decide_eq_false (by first | assumption | omega) | exact congrArg (!·) (decide_eq_true (by first | assumption | omega)) | exact congrArg (!·) (show _ = true by assumption) | rfl)) ?_)
             | (refine Idx.mk ⟨_, rfl, by first | assumption | omega, ?_⟩)
             | (refine Idx.mk ⟨0, rfl, by omega, ?_⟩)
             | (refine DrawOb.start ?_)
             | (refine TryF.fast rfl (by decide +kernel) (by kernel_rfl) ?_)
             | (refine TryF.next rfl ?_)
             | (refine TryF.other ?_)
             | (refine TryG.go rfl (by decide +kernel) (by kernel_rfl) ?_)
             | (refine TryG.next rfl ?_)
             | (refine Cases.mk (fun hc => ?_) (fun hc => ?_) <;> (try simp only [Bool.not_eq_true', Bool.not_eq_false', decide_eq_true_eq, decide_eq_false_iff_not] at hc))
             | (refine Sp.call (psi21_sp n (by omega) (by omega)) (ArgsLe.refl _) rfl (AvLe.refl _) ?_)
             | (refine Sp.call (rlam_sp n f (by omega) (by omega) (by omega) (by omega) hfn) (ArgsLe.refl _) rfl (AvLe.refl _) ?_))
  all_goals (refine ⟨⟨_, _, rfl, rfl, AvLe.int ?_⟩⟩)
  all_goals (unfold dim12; congr 1; (repeat' split) <;> omega)
end Go.Proofs.YteamlpflgfmieaaDoor

/- States in letters: the program's dimension formula; beta; the sums of the reference. -/
namespace Go.Proofs.YteamlpflgfmieaaDoor
open Go Go.RowKit Go.VG HP
def specA (L K D : Int) : AV := .v (.agg [ix L, ix K, ix D])
set_option maxHeartbeats 8000000 in
set_option maxRecDepth 20000 in
theorem cuspm_sp (n f k : Nat) (four three : Int) (hn0 : 1 ≤ n) (hn : n ≤ 120) (hf0 : 1 ≤ f) (hf : f ≤ 120) (hfn : f ∣ n) (hk : 2 ≤ k) (hk2 : k ≤ 24) (h1 : -1000000 ≤ four) (h2 : four ≤ 1000000) (h3 : -1000000 ≤ three) (h4 : three ≤ 1000000) : Sp CX 34 [spA n f k four three] (int .i64 ((dim12 n k f four three).tdiv 12)) := by
  refine fn_sp (C := CX) [(2,0)] [] tysX_ok mixed Tryd.func34 rfl (by kernel_rfl) Tryd.ntmps34 rfl rfl ?_
  have hm := mul_small hn0 hn (show 1 ≤ k by omega) hk2
  have hl := lam_small (f := f) hn0 hn
  have e4 : (k : Int).tmod 4 = ((k % 4 : Nat) : Int) := (Int.ofNat_tmod k 4).symm
  have e3 : (k : Int).tmod 3 = ((k % 3 : Nat) : Int) := (Int.ofNat_tmod k 3).symm
  obtain ⟨ex, hex⟩ : ∃ ex : Int, ex = if (k : Int) = 2 ∧ (f : Int) = 1 then 1 else 0 := ⟨_, rfl⟩
  have hex2 : 0 ≤ ex ∧ ex ≤ 1 := by rw [hex]; split <;> omega
  have s := exc_sp n f k four three
  rw [← hex] at s
  have HEX := Lib.hid hex
  clear hex
  repeat' (conv => whnf
           first
             | (refine Ob.mk (by (first | omega | (simp only [InK]; omega) | exact ⟨by omega, tdivIn (by omega) (by omega)⟩ | exact ⟨by first | omega | (simp only [InK]; omega), by first | omega | (simp only [InK]; omega)⟩)) ?_)
             | (refine Cases.yes (by (first | assumption | exact decide_eq_true (by first | assumption | omega) | exact congrArg (!·) (decide_eq_false (by first | assumption | omega)) | exact congrArg (!·) (show _ = false by assumption) | rfl)) ?_)
             | (refine Cases.no (by (first | assumption | exact decide_eq_false (by first | assumption | omega) | exact congrArg (!·) (decide_eq_true (by first | assumption | omega)) | exact congrArg (!·) (show _ = true by assumption) | rfl)) ?_)
             | (refine Idx.mk ⟨_, rfl, by first | assumption | omega, ?_⟩)
             | (refine Idx.mk ⟨0, rfl, by omega, ?_⟩)
             | (refine DrawOb.start ?_)
             | (refine TryF.fast rfl (by decide +kernel) (by kernel_rfl) ?_)
             | (refine TryF.next rfl ?_)
             | (refine TryF.other ?_)
             | (refine TryG.go rfl (by decide +kernel) (by kernel_rfl) ?_)
             | (refine TryG.next rfl ?_)
             | (refine Sp.call (psi_sp n (by omega) (by omega)) (ArgsLe.refl _) rfl (AvLe.refl _) ?_))
  refine ⟨⟨Int, fun t => ⟨[(1, .v (.c (.loc 0 0))), (5, int .i64 t)], [(0, .st [ix n, ix f, ix k, ix four, ix three])], 1⟩, fun t => t = ((k : Int) - 1) * psi n - 6 * lam f n + 12 * ex, ?_, ?_⟩⟩
  · repeat' (conv => whnf
             first
               | (refine Ob.mk (by (first | omega | (simp only [InK]; omega) | exact ⟨by omega, tdivIn (by omega) (by omega)⟩ | exact ⟨by first | omega | (simp only [InK]; omega), by first | omega | (simp only [InK]; omega)⟩)) ?_)
               | (refine Cases.yes (by (first | assumption | exact decide_eq_true (by first | assumption | omega) | exact congrArg (!·) (decide_eq_false (by first | assumption | omega)) | exact congrArg (!·) (show _ = false by assumption) | rfl)) ?_)
               | (refine Cases.no (by (first | assumption | exact decide_eq_false (by first | assumption | omega) | exact congrArg (!·) (decide_eq_true (by first | assumption | omega)) | exact congrArg (!·) (show _ = true by assumption) | rfl)) ?_)
               | (refine Idx.mk ⟨_, rfl, by first | assumption | omega, ?_⟩)
               | (refine Idx.mk ⟨0, rfl, by omega, ?_⟩)
               | (refine DrawOb.start ?_)
               | (refine TryF.fast rfl (by decide +kernel) (by kernel_rfl) ?_)
               | (refine TryF.next rfl ?_)
               | (refine TryF.other ?_)
               | (refine TryG.go rfl (by decide +kernel) (by kernel_rfl) ?_)
               | (refine TryG.next rfl ?_)
               | (refine Sp.call (psi_sp n (by omega) (by omega)) (ArgsLe.refl _) rfl (AvLe.refl _) ?_)
               | (refine Sp.call (lam_sp n f k four three (by omega) (by omega) (by omega) (by omega) hfn) (ArgsLe.refl _) rfl (AvLe.refl _) ?_)
               | (refine Sp.call (s) (ArgsLe.refl _) rfl (AvLe.refl _) ?_))
    exact ⟨_, [], rfl, (by refine ⟨?_, ?_, rfl⟩ <;> repeat (first | exact TmE.nil | exact OwnE.nil | refine TmE.cons (by first | exact AvLe.refl _ | exact AvLe.int (by omega) | exact AvLe.bool (by first | rfl | assumption)) ?_ | refine OwnE.cons rfl (BlkLe.refl _) ?_ | refine OwnE.cons rfl BlkLe.zero ?_))⟩
  · intro t ht
    have hts : -1000000 ≤ t ∧ t ≤ 1000000 := by omega
    repeat' (conv => whnf
             first
               | (refine Ob.mk (by (first | omega | (simp only [InK]; omega) | exact ⟨by omega, tdivIn (by omega) (by omega)⟩ | exact ⟨by first | omega | (simp only [InK]; omega), by first | omega | (simp only [InK]; omega)⟩)) ?_)
               | (refine Cases.yes (by (first | assumption | exact decide_eq_true (by first | assumption | omega) | exact congrArg (!·) (decide_eq_false (by first | assumption | omega)) | exact congrArg (!·) (show _ = false by assumption) | rfl)) ?_)
               | (refine Cases.no (by (first | assumption | exact decide_eq_false (by first | assumption | omega) | exact congrArg (!·) (decide_eq_true (by first | assumption | omega)) | exact congrArg (!·) (show _ = true by assumption) | rfl)) ?_)
               | (refine Idx.mk ⟨_, rfl, by first | assumption | omega, ?_⟩)
               | (refine Idx.mk ⟨0, rfl, by omega, ?_⟩)
               | (refine DrawOb.start ?_)
               | (refine TryF.fast rfl (by decide +kernel) (by kernel_rfl) ?_)
               | (refine TryF.next rfl ?_)
               | (refine TryF.other ?_)
               | (refine TryG.go rfl (by decide +kernel) (by kernel_rfl) ?_)
               | (refine TryG.next rfl ?_)
               | (refine Cases.mk (fun hc => ?_) (fun hc => ?_) <;> (try simp only [Bool.not_eq_true', Bool.not_eq_false', decide_eq_true_eq, decide_eq_false_iff_not] at hc)))
    all_goals (refine ⟨⟨_, _, rfl, rfl, AvLe.int ?_⟩⟩)
    all_goals (unfold dim12; congr 1; have hq := HEX.out; (repeat' split) <;> omega)
theorem eis_sp (n f k : Nat) (four three : Int) (hn0 : 1 ≤ n) (hn : n ≤ 120) (hf0 : 1 ≤ f) (hf : f ≤ 120) (hfn : f ∣ n) : Sp CX 38 [spA n f k four three] (int .i64 (lam f n - if k = 2 ∧ f = 1 then 1 else 0)) := by
  refine fn_sp (C := CX) [] [] tysX_ok mixed Tryd.func38 rfl (by kernel_rfl) Tryd.ntmps38 rfl rfl ?_
  have hl := lam_small (f := f) hn0 hn
  obtain ⟨ex, hex⟩ : ∃ ex : Int, ex = if (k : Int) = 2 ∧ (f : Int) = 1 then 1 else 0 := ⟨_, rfl⟩
  have hex2 : 0 ≤ ex ∧ ex ≤ 1 := by rw [hex]; split <;> omega
  have s := exc_sp n f k four three
  rw [← hex] at s
  have HEX := Lib.hid hex
  clear hex
  repeat' (conv => whnf
           first
             | (refine Ob.mk (by (first | omega | (simp only [InK]; omega) | exact ⟨by omega, tdivIn (by omega) (by omega)⟩ | exact ⟨by first | omega | (simp only [InK]; omega), by first | omega | (simp only [InK]; omega)⟩)) ?_)
             | (refine Cases.yes (by (first | assumption | exact decide_eq_true (by first | assumption | omega) | exact congrArg (!·) (decide_eq_false (by first | assumption | omega)) | exact congrArg (!·) (show _ = false by assumption) | rfl)) ?_)
             | (refine Cases.no (by (first | assumption | exact decide_eq_false (by first | assumption | omega) | exact congrArg (!·) (decide_eq_true (by first | assumption | omega)) | exact congrArg (!·) (show _ = true by assumption) | rfl)) ?_)
             | (refine Idx.mk ⟨_, rfl, by first | assumption | omega, ?_⟩)
             | (refine Idx.mk ⟨0, rfl, by omega, ?_⟩)
             | (refine DrawOb.start ?_)
             | (refine TryF.fast rfl (by decide +kernel) (by kernel_rfl) ?_)
             | (refine TryF.next rfl ?_)
             | (refine TryF.other ?_)
             | (refine TryG.go rfl (by decide +kernel) (by kernel_rfl) ?_)
             | (refine TryG.next rfl ?_)
             | (refine Sp.call (lam_sp n f k four three (by omega) (by omega) (by omega) (by omega) hfn) (ArgsLe.refl _) rfl (AvLe.refl _) ?_)
             | (refine Sp.call (s) (ArgsLe.refl _) rfl (AvLe.refl _) ?_))
  refine ⟨⟨_, _, rfl, rfl, AvLe.int ?_⟩⟩
  have hq := HEX.out
  split <;> (split at hq <;> omega)
theorem bet_small {n : Nat} (h1 : 1 ≤ n) (h2 : n ≤ 120) (i : Nat) : -8 ≤ prodL betF ((facs n).take i) ∧ prodL betF ((facs n).take i) ≤ 8 := by
  have h : allB 121 (fun n => decide (n = 0) || (decide ((facC n).length ≤ 5) && allB 6 fun i => decide (-8 ≤ prodL betF ((facC n).take i)) && decide (prodL betF ((facC n).take i) ≤ 8))) = true := by decide +kernel
  have := allB_at h (show n < 121 by omega)
  simp only [Bool.or_eq_true, Bool.and_eq_true, decide_eq_true_eq] at this
  obtain ⟨hl, hb⟩ := this.resolve_left (by omega)
  rw [facs_C h1 h2]
  by_cases hi : i < 6
  · have := allB_at hb hi
    simp only [Bool.and_eq_true, decide_eq_true_eq] at this
    exact this
  · have := allB_at hb (show 5 < 6 by omega)
    simp only [Bool.and_eq_true, decide_eq_true_eq] at this
    rw [List.take_of_length_le (by omega)] at this ⊢
    exact this
theorem bet_zero {l : List (Nat × Nat)} {i p e : Nat} (h : l[i]? = some (p, e)) (he : 2 < e) : prodL betF l = 0 := by
  have h2 := prodL_next betF h
  have h3 : betF p e = 0 := by unfold betF; rw [if_neg (by omega), if_neg (by omega)]
  rw [h3, Int.mul_zero] at h2
  conv => lhs; rw [← List.take_append_drop (i + 1) l]
  rw [prodL_append, h2, Int.zero_mul]
set_option maxHeartbeats 4000000 in
theorem beta_sp (n : Nat) (hn0 : 1 ≤ n) (hn : n ≤ 120) : Sp CX 36 [int .i64 n] (int .i64 (bet n)) := by
  obtain ⟨Z, len, hZ, hlen⟩ := zOf (facs n) (0, 0)
  have hll : len ≤ 1000 := by have := facs_len (n := n) (by omega); omega
  refine fn_sp (C := CX) [] [] tysX_ok mixed Tryd.func36 rfl (by kernel_rfl) Tryd.ntmps36 rfl rfl ?_
  repeat' (conv => whnf
           first
             | (refine Ob.mk (by (first | omega | (simp only [InK]; omega) | exact ⟨by omega, tdivIn (by omega) (by omega)⟩ | exact ⟨by first | omega | (simp only [InK]; omega), by first | omega | (simp only [InK]; omega)⟩)) ?_)
             | (refine Cases.yes (by (first | assumption | exact decide_eq_true (by first | assumption | omega) | exact congrArg (!·) (decide_eq_false (by first | assumption | omega)) | exact congrArg (!·) (show _ = false by assumption) | rfl)) ?_)
             | (refine Cases.no (by (first | assumption | exact decide_eq_false (by first | assumption | omega) | exact congrArg (!·) (decide_eq_true (by first | assumption | omega)) | exact congrArg (!·) (show _ = true by assumption) | rfl)) ?_)
             | (refine Idx.mk ⟨_, rfl, by first | assumption | omega, ?_⟩)
             | (refine Idx.mk ⟨0, rfl, by omega, ?_⟩)
             | (refine DrawOb.start ?_)
             | (refine TryF.fast rfl (by decide +kernel) (by kernel_rfl) ?_)
             | (refine TryF.next rfl ?_)
             | (refine TryF.other ?_)
             | (refine TryG.go rfl (by decide +kernel) (by kernel_rfl) ?_)
             | (refine TryG.next rfl ?_)
             | (refine Sp.call (factor_sp n Z len (fun i p e => hZ i (p, e)) hlen (by omega) (by omega)) (ArgsLe.refl _) rfl (AvLe.refl _) ?_))
  refine ⟨⟨Nat, fun i => ⟨[(3, int .i64 (prodL betF ((facs n).take i))), (13, .v (.c (.sl 2 (Nat × Nat) ppL Z len))), (14, int .i64 len), (15, int .i64 i)], [], 1⟩, fun i => i ≤ len, fun i => len - i, ⟨0, [], Nat.zero_le _, (by refine ⟨?_, ?_, rfl⟩ <;> repeat (first | exact TmE.nil | exact OwnE.nil | refine TmE.cons (by first | exact AvLe.refl _ | exact AvLe.int (by omega) | exact AvLe.bool (by first | rfl | assumption)) ?_ | refine OwnE.cons rfl (BlkLe.refl _) ?_ | refine OwnE.cons rfl BlkLe.zero ?_))⟩, ?_⟩⟩
  intro i hi
  by_cases hd : i < len
  · have hfi : (facs n)[i]? = some ((Z i).1, (Z i).2) := by
      have h := List.getElem?_eq_getElem (l := facs n) (i := i) (by omega)
      rw [h, hZ i _ h]
    have hst := prodL_next betF hfi
    have b0 := bet_small hn0 hn i
    have he := (facs_bounds (show 0 < n by omega) (List.mem_of_getElem? hfi)).2.2.1
    by_cases c1 : (Z i).2 = 1
    · have el : betF (Z i).1 (Z i).2 = -2 := by unfold betF; rw [if_pos c1]
      rw [el] at hst
      repeat' (conv => whnf
               first
                 | (refine Ob.mk (by (first | omega | (simp only [InK]; omega) | exact ⟨by omega, tdivIn (by omega) (by omega)⟩ | exact ⟨by first | omega | (simp only [InK]; omega), by first | omega | (simp only [InK]; omega)⟩)) ?_)
                 | (refine Cases.yes (by (first | assumption | exact decide_eq_true (by first | assumption | omega) | exact congrArg (!·) (decide_eq_false (by first | assumption | omega)) | exact congrArg (!·) (show _ = false by assumption) | rfl)) ?_)
                 | (refine Cases.no (by (first | assumption | exact decide_eq_false (by first | assumption | omega) | exact congrArg (!·) (decide_eq_true (by first | assumption | omega)) | exact congrArg (!·) (show _ = true by assumption) | rfl)) ?_)
                 | (refine Idx.mk ⟨_, rfl, by first | assumption | omega, ?_⟩)
                 | (refine Idx.mk ⟨0, rfl, by omega, ?_⟩)
                 | (refine DrawOb.start ?_)
                 | (refine TryF.fast rfl (by decide +kernel) (by kernel_rfl) ?_)
                 | (refine TryF.next rfl ?_)
                 | (refine TryF.other ?_)
                 | (refine TryG.go rfl (by decide +kernel) (by kernel_rfl) ?_)
                 | (refine TryG.next rfl ?_))
      exact ⟨i + 1, [], hd, by show len - (i + 1) < len - i; omega, (by refine ⟨?_, ?_, rfl⟩ <;> repeat (first | exact TmE.nil | exact OwnE.nil | refine TmE.cons (by first | exact AvLe.refl _ | exact AvLe.int (by omega) | exact AvLe.bool (by first | rfl | assumption)) ?_ | refine OwnE.cons rfl (BlkLe.refl _) ?_ | refine OwnE.cons rfl BlkLe.zero ?_))⟩
    · by_cases c2 : (Z i).2 = 2
      · have el : betF (Z i).1 (Z i).2 = 1 := by unfold betF; rw [if_neg c1, if_pos c2]
        rw [el, Int.mul_one] at hst
        repeat' (conv => whnf
                 first
                   | (refine Ob.mk (by (first | omega | (simp only [InK]; omega) | exact ⟨by omega, tdivIn (by omega) (by omega)⟩ | exact ⟨by first | omega | (simp only [InK]; omega), by first | omega | (simp only [InK]; omega)⟩)) ?_)
                   | (refine Cases.yes (by (first | assumption | exact decide_eq_true (by first | assumption | omega) | exact congrArg (!·) (decide_eq_false (by first | assumption | omega)) | exact congrArg (!·) (show _ = false by assumption) | rfl)) ?_)
                   | (refine Cases.no (by (first | assumption | exact decide_eq_false (by first | assumption | omega) | exact congrArg (!·) (decide_eq_true (by first | assumption | omega)) | exact congrArg (!·) (show _ = true by assumption) | rfl)) ?_)
                   | (refine Idx.mk ⟨_, rfl, by first | assumption | omega, ?_⟩)
                   | (refine Idx.mk ⟨0, rfl, by omega, ?_⟩)
                   | (refine DrawOb.start ?_)
                   | (refine TryF.fast rfl (by decide +kernel) (by kernel_rfl) ?_)
                   | (refine TryF.next rfl ?_)
                   | (refine TryF.other ?_)
                   | (refine TryG.go rfl (by decide +kernel) (by kernel_rfl) ?_)
                   | (refine TryG.next rfl ?_))
        exact ⟨i + 1, [], hd, by show len - (i + 1) < len - i; omega, (by refine ⟨?_, ?_, rfl⟩ <;> repeat (first | exact TmE.nil | exact OwnE.nil | refine TmE.cons (by first | exact AvLe.refl _ | exact AvLe.int (by omega) | exact AvLe.bool (by first | rfl | assumption)) ?_ | refine OwnE.cons rfl (BlkLe.refl _) ?_ | refine OwnE.cons rfl BlkLe.zero ?_))⟩
      · have hz := bet_zero hfi (by omega)
        repeat' (conv => whnf
                 first
                   | (refine Ob.mk (by (first | omega | (simp only [InK]; omega) | exact ⟨by omega, tdivIn (by omega) (by omega)⟩ | exact ⟨by first | omega | (simp only [InK]; omega), by first | omega | (simp only [InK]; omega)⟩)) ?_)
                   | (refine Cases.yes (by (first | assumption | exact decide_eq_true (by first | assumption | omega) | exact congrArg (!·) (decide_eq_false (by first | assumption | omega)) | exact congrArg (!·) (show _ = false by assumption) | rfl)) ?_)
                   | (refine Cases.no (by (first | assumption | exact decide_eq_false (by first | assumption | omega) | exact congrArg (!·) (decide_eq_true (by first | assumption | omega)) | exact congrArg (!·) (show _ = true by assumption) | rfl)) ?_)
                   | (refine Idx.mk ⟨_, rfl, by first | assumption | omega, ?_⟩)
                   | (refine Idx.mk ⟨0, rfl, by omega, ?_⟩)
                   | (refine DrawOb.start ?_)
                   | (refine TryF.fast rfl (by decide +kernel) (by kernel_rfl) ?_)
                   | (refine TryF.next rfl ?_)
                   | (refine TryF.other ?_)
                   | (refine TryG.go rfl (by decide +kernel) (by kernel_rfl) ?_)
                   | (refine TryG.next rfl ?_))
        refine ⟨⟨_, _, rfl, rfl, AvLe.int ?_⟩⟩
        exact hz.symm
  · obtain rfl : i = len := by omega
    repeat' (conv => whnf
             first
               | (refine Ob.mk (by (first | omega | (simp only [InK]; omega) | exact ⟨by omega, tdivIn (by omega) (by omega)⟩ | exact ⟨by first | omega | (simp only [InK]; omega), by first | omega | (simp only [InK]; omega)⟩)) ?_)
               | (refine Cases.yes (by (first | assumption | exact decide_eq_true (by first | assumption | omega) | exact congrArg (!·) (decide_eq_false (by first | assumption | omega)) | exact congrArg (!·) (show _ = false by assumption) | rfl)) ?_)
               | (refine Cases.no (by (first | assumption | exact decide_eq_false (by first | assumption | omega) | exact congrArg (!·) (decide_eq_true (by first | assumption | omega)) | exact congrArg (!·) (show _ = true by assumption) | rfl)) ?_)
               | (refine Idx.mk ⟨_, rfl, by first | assumption | omega, ?_⟩)
               | (refine Idx.mk ⟨0, rfl, by omega, ?_⟩)
               | (refine DrawOb.start ?_)
               | (refine TryF.fast rfl (by decide +kernel) (by kernel_rfl) ?_)
               | (refine TryF.next rfl ?_)
               | (refine TryF.other ?_)
               | (refine TryG.go rfl (by decide +kernel) (by kernel_rfl) ?_)
               | (refine TryG.next rfl ?_))
    refine ⟨⟨_, _, rfl, rfl, AvLe.int ?_⟩⟩
    rw [hlen, List.take_length]
    rfl
end Go.Proofs.YteamlpflgfmieaaDoor

/- The sums over roots: walked by hand, since a function is handed on that writes. -/
namespace Go.Proofs.YteamlpflgfmieaaDoor
open Go Go.RowKit Go.VG HP
set_option maxHeartbeats 1000000 in
theorem roots_any (g : Nat) (caps : Array Value) (he : ∀ args w, (callFunc g args).run Tryd.prog w = .ok (.enter g args) w) (n c : Nat) (w : World) (hn0 : 0 < n) (hn : n ≤ 1000) (hc : c ≤ 1000)
    (I : Nat → World → Prop) (h0 : I 0 w)
    (hs : ∀ a wr, a < n → (a * a + c * a + 1) % n = 0 → I a wr → Calls Tryd.prog g (#[.int .i64 a] ++ caps) wr fun x w' => x = .returned (.tuple #[]) ∧ I (a + 1) w')
    (hk : ∀ a wr, (a * a + c * a + 1) % n ≠ 0 → I a wr → I (a + 1) wr) :
    Calls Tryd.prog 58 #[.int .i64 n, .int .i64 c, .func (.func g) #[] caps] w fun e w' => e = .returned (.tuple #[]) ∧ I n w' := by
  have HS := Lib.hid hs
  have HK := Lib.hid hk
  clear hs hk
  go_enter Tryd.func58, Tryd.ntmps58
  go_wp2
  go_loopw [8] (fun x wr => ∃ a : Nat, x = .int .i64 a ∧ a ≤ n ∧ I a wr) (fun x _ => n - (intOf x).toNat)
  case atStart => exact ⟨0, rfl, Nat.zero_le _, h0⟩
  case round =>
    obtain ⟨a, rfl, ha, hI⟩ := hrel
    by_cases hlt : a < n
    · have p1 : (a : Int) * a ≤ 1000 * 1000 := Int.mul_le_mul (by omega) (by omega) (by omega) (by omega)
      have p2 : (c : Int) * a ≤ 1000 * 1000 := Int.mul_le_mul (by omega) (by omega) (by omega) (by omega)
      have p3 : 0 ≤ (a : Int) * a := Int.mul_nonneg (by omega) (by omega)
      have p4 : 0 ≤ (c : Int) * a := Int.mul_nonneg (by omega) (by omega)
      have em : ((a * a + c * a + 1 : Nat) : Int) = (a : Int) * a + (c : Int) * a + 1 := by push_cast; rfl
      have em2 : (((a * a + c * a + 1) % n : Nat) : Int) = ((a : Int) * a + (c : Int) * a + 1) % n := by rw [← em]; rfl
      by_cases hz : (a * a + c * a + 1) % n = 0
      · have hd : (((a : Int) * a + (c : Int) * a + 1) % n == 0) = true := by rw [beq_iff_eq, ← em2]; omega
        have c := HS.out a wr hlt hz hI
        have C := Lib.hid c
        clear c em em2 hI
        go_wp2_with (go_at_fn g; refine C.out.mono ?_; rintro x w' ⟨rfl, hI⟩)
        go_roundw
        case rel => exact ⟨a + 1, by go_num, hlt, hI⟩
        case measure => simp [intOf]; omega
      · have hd : (((a : Int) * a + (c : Int) * a + 1) % n == 0) = false := by rw [beq_eq_false_iff_ne, ← em2]; omega
        have hI' := HK.out a wr hz hI
        clear em em2 hI
        go_wp2
        go_roundw
        case rel => exact ⟨a + 1, by go_num, hlt, hI'⟩
        case measure => simp [intOf]; omega
    · obtain rfl : a = n := by omega
      go_wp2
      go_end0
      exact ⟨rfl, hI⟩
set_option maxHeartbeats 2000000 in
set_option maxRecDepth 100000 in
theorem quad1_any (g s l : Nat) (a n : Nat) (x D : Int) (w : World) (hT : TabW w) (hg : w.cell? ⟨g, 3, none⟩ = some (.int .i64 x)) (hf : w.frozen? ⟨g, 3, none⟩ = false) (hs : w.cell? ⟨s, 2, none⟩ = some (.int .i64 D)) (hl : w.cell? ⟨l, 0, none⟩ = some (.int .i64 n))
    (ha : a ≤ 1000) (hn : n ≤ 1000) (hD : -1000000 ≤ D) (hD2 : D ≤ 1000000) (hx : -1000000 ≤ x) (hx2 : x ≤ 1000000) :
    Calls Tryd.prog 59 #[.int .i64 a, .pointer (some ⟨g, 0, none⟩), .pointer (some ⟨s, 0, none⟩), .pointer (some ⟨l, 0, none⟩)] w fun e w' => e = .returned (.tuple #[]) ∧ ∃ m, w' = (w.setCell ⟨g, 3, none⟩ (.int .i64 (x + kro D ((a : Int) + n)))).drewN m := by
  have ht := kro_tri D ((a : Int) + n)
  have ht2 : -1 ≤ kro D ((a : Int) + n) ∧ kro D ((a : Int) + n) ≤ 1 := by rcases ht with h | h | h <;> omega
  clear ht
  obtain ⟨q, hq⟩ : ∃ q : Int, q = (a : Int) + n := ⟨_, rfl⟩
  rw [← hq] at ht2
  have hw : IntKind.i64.wrap ((a : Int) + n) = q := (IntWalk.i64_left _).trans ((IntWalk.wrap64_in ((a : Int) + n) (by omega)).trans hq.symm)
  have c : Calls Tryd.prog 46 #[.int .i64 D, .int .i64 q] w.drew fun e w' => e = .returned (.int .i64 (kro D q)) ∧ w' = w.drew :=
    (kronecker_any D q w.drew (by omega) (by omega) (by omega) (by omega) hT).mono fun _ _ h => ⟨h.1, h.2.symm⟩
  rw [← hq]
  generalize kro D q = k at *
  have hw2 : IntKind.i64.wrap (x + k) = x + k := (IntWalk.i64_left _).trans (IntWalk.wrap64_in (x + k) (by omega))
  have C := Lib.hid c
  clear c hT hq ht2 hD hD2 hx hx2 ha hn
  go_enter Tryd.func59, Tryd.ntmps59
  go_wp2
  refine wp_region_still_tail 10 (by decide +kernel) (by decide +kernel) ?_
  simp only [List.take_succ_cons, List.take_zero, List.drop_succ_cons, List.drop_zero]
  still_step
  still_step
  still_step
  still_step
  still_step
  still_step
  still_step
  still_call (C.out)
  still_step
  still_step
  refine wpStill_nil ?_
  change wpList _ _ _ _ _ w.drew
  have hf2 : w.drew.frozen? ⟨g, 3, none⟩ = false := hf
  clear hf hs hl
  go_wp2
  go_end0
  exact ⟨rfl, 1, rfl⟩
set_option maxHeartbeats 2000000 in
set_option maxRecDepth 100000 in
theorem quad2_any (g s l : Nat) (a n : Nat) (x D : Int) (w : World) (hT : TabW w) (hg : w.cell? ⟨g, 4, none⟩ = some (.int .i64 x)) (hf : w.frozen? ⟨g, 4, none⟩ = false) (hs : w.cell? ⟨s, 2, none⟩ = some (.int .i64 D)) (hl : w.cell? ⟨l, 0, none⟩ = some (.int .i64 n))
    (ha : a ≤ 1000) (hn : n ≤ 1000) (hD : -1000000 ≤ D) (hD2 : D ≤ 1000000) (hx : -1000000 ≤ x) (hx2 : x ≤ 1000000) :
    Calls Tryd.prog 60 #[.int .i64 a, .pointer (some ⟨g, 0, none⟩), .pointer (some ⟨s, 0, none⟩), .pointer (some ⟨l, 0, none⟩)] w fun e w' => e = .returned (.tuple #[]) ∧ ∃ m, w' = (w.setCell ⟨g, 4, none⟩ (.int .i64 (x + 2 * kro D ((a : Int) + n)))).drewN m := by
  have ht := kro_tri D ((a : Int) + n)
  have ht2 : -1 ≤ kro D ((a : Int) + n) ∧ kro D ((a : Int) + n) ≤ 1 := by rcases ht with h | h | h <;> omega
  clear ht
  obtain ⟨q, hq⟩ : ∃ q : Int, q = (a : Int) + n := ⟨_, rfl⟩
  rw [← hq] at ht2
  have hw : IntKind.i64.wrap ((a : Int) + n) = q := (IntWalk.i64_left _).trans ((IntWalk.wrap64_in ((a : Int) + n) (by omega)).trans hq.symm)
  have c : Calls Tryd.prog 46 #[.int .i64 D, .int .i64 q] w.drew fun e w' => e = .returned (.int .i64 (kro D q)) ∧ w' = w.drew :=
    (kronecker_any D q w.drew (by omega) (by omega) (by omega) (by omega) hT).mono fun _ _ h => ⟨h.1, h.2.symm⟩
  rw [← hq]
  generalize kro D q = k at *
  have hw2 : IntKind.i64.wrap (x + 2 * k) = x + 2 * k := (IntWalk.i64_left _).trans (IntWalk.wrap64_in (x + 2 * k) (by omega))
  have hw3 : IntKind.i64.wrap (2 * k) = 2 * k := (IntWalk.i64_left _).trans (IntWalk.wrap64_in (2 * k) (by omega))
  have C := Lib.hid c
  clear c hT hq ht2 hD hD2 hx hx2 ha hn
  go_enter Tryd.func60, Tryd.ntmps60
  go_wp2
  refine wp_region_still_tail 11 (by decide +kernel) (by decide +kernel) ?_
  simp only [List.take_succ_cons, List.take_zero, List.drop_succ_cons, List.drop_zero]
  still_step
  still_step
  still_step
  still_step
  still_step
  still_step
  still_step
  still_call (C.out)
  still_step
  still_step
  still_step
  refine wpStill_nil ?_
  change wpList _ _ _ _ _ w.drew
  have hf2 : w.drew.frozen? ⟨g, 4, none⟩ = false := hf
  clear hf hs hl
  go_wp2
  go_end0
  exact ⟨rfl, 1, rfl⟩
end Go.Proofs.YteamlpflgfmieaaDoor

