/- The walk of arith.Fundamental. -/
import Derived.Test.YtdjfndfkjbjcpaaGreatDoorAriH
namespace Go.Proofs.YtdjfndfkjbjcpaaGreatDoor
open Go.RowKit HP

theorem enters77 (args : Array Value) (w : World) : (callFunc 77 args).run Tryz.prog w = .ok (.enter 77 args) w := enters_of Tryz.func77 (by kernel_rfl) rfl args w

def FundI (w : World) (l : List (Nat × Nat)) (wr : World) : Prop :=
  wr.cell? ⟨w.heap.size + 1, 0, none⟩ = some (.int .i64 (frL l)) ∧ wr.frozen? ⟨w.heap.size + 1, 0, none⟩ = false ∧ wr.cell? ⟨w.heap.size, 0, none⟩ = some (.int .i64 (sqL l)) ∧ wr.frozen? ⟨w.heap.size, 0, none⟩ = false ∧ Below w.heap.size w wr

theorem fundI_step {w wr : World} {l : List (Nat × Nat)} {p e : Nat} {m k : Nat} (h : FundI w l wr) (hf : 1 ≤ frL (l ++ [(p, e)]) ∧ frL (l ++ [(p, e)]) ≤ 2147483647) (hq : 1 ≤ sqL (l ++ [(p, e)]) ∧ sqL (l ++ [(p, e)]) ≤ 2147483647) :
    FundI w (l ++ [(p, e)]) ((((wr.setCell ⟨w.heap.size + 1, 0, none⟩ (.int .i64 (wrap64 (frL l * ((p ^ (e % 2) : Nat) : Int))))).drewN m).setCell ⟨w.heap.size, 0, none⟩ (.int .i64 (wrap64 (sqL l * ((p ^ (e / 2) : Nat) : Int))))).drewN k) := by
  obtain ⟨h1, h2, h3, h4, h5⟩ := h
  have e1 : frL (l ++ [(p, e)]) = frL l * ((p ^ (e % 2) : Nat) : Int) := by unfold frL; rw [prodL_append]; simp [prodL]
  have e2 : sqL (l ++ [(p, e)]) = sqL l * ((p ^ (e / 2) : Nat) : Int) := by unfold sqL; rw [prodL_append]; simp [prodL]
  rw [e1] at hf
  rw [e2] at hq
  rw [IntWalk.wrap64_in _ (by omega), IntWalk.wrap64_in _ (by omega), ← e1, ← e2]
  refine ⟨?_, ?_, ?_, ?_, ?_⟩
  · rw [World.cell?_drewN, World.cell?_setCell_other _ _ _ _ (by simp), World.cell?_drewN]; exact World.cell?_setCell_same _ _ _ h1
  · rw [World.frozen?_drewN]
    refine (World.frozen?_setCell _ _ _ _).trans ?_
    rw [World.frozen?_drewN]
    exact (World.frozen?_setCell _ _ _ _).trans h2
  · rw [World.cell?_drewN]
    have e5 : ((wr.setCell ⟨w.heap.size + 1, 0, none⟩ (.int .i64 (frL (l ++ [(p, e)])))).drewN m).cell? ⟨w.heap.size, 0, none⟩ = some (.int .i64 (sqL l)) := by
      rw [World.cell?_drewN, World.cell?_setCell_other _ _ _ _ (by simp)]
      exact h3
    exact World.cell?_setCell_same _ _ _ e5
  · rw [World.frozen?_drewN]
    refine (World.frozen?_setCell _ _ _ _).trans ?_
    rw [World.frozen?_drewN]
    exact (World.frozen?_setCell _ _ _ _).trans h4
  · exact below_drewN ((below_drewN (h5.setCell (by simp) _) m).setCell (by simp) _) k

theorem fund_range (d : Int) (w : World) (h : d = 0 ∨ 2147483647 < d ∨ d < -2147483647) :
    Calls Tryz.prog 32 #[.int .i64 d] w fun x w' => x = .returned (.tuple #[.int .i64 0, .int .i64 0, .int .i64 2]) ∧ Below w.heap.size w w' := by
  by_cases h1 : d = 0
  · obtain rfl := h1
    go_enter Tryz.func32, Tryz.ntmps32
    go_wp2
    refine bodyPost_ret (v := .tuple #[.int .i64 0, .int .i64 0, .int .i64 2]) (by simp [results, Tryz.results32, go_sem]) rfl ⟨rfl, ?_⟩
    go_grown
  · have b1 : (d == 0) = false := beq_eq_false_iff_ne.2 h1
    by_cases h2 : d < -2147483647
    · have d2 : decide (d < -2147483647) = true := by simpa using h2
      clear h
      go_enter Tryz.func32, Tryz.ntmps32
      go_wp2
      refine bodyPost_ret (v := .tuple #[.int .i64 0, .int .i64 0, .int .i64 2]) (by simp [results, Tryz.results32, go_sem]) rfl ⟨rfl, ?_⟩
      go_grown
    · have d2 : decide (d < -2147483647) = false := by simpa using h2
      have d3 : decide (2147483647 < d) = true := by simp; omega
      clear h
      go_enter Tryz.func32, Tryz.ntmps32
      go_wp2
      refine bodyPost_ret (v := .tuple #[.int .i64 0, .int .i64 0, .int .i64 2]) (by simp [results, Tryz.results32, go_sem]) rfl ⟨rfl, ?_⟩
      go_grown

theorem fund_bad (d : Int) (w : World) (h : ¬ (d = 0 ∨ 2147483647 < d ∨ d < -2147483647)) (h4 : 1 < d % 4) :
    Calls Tryz.prog 32 #[.int .i64 d] w fun x w' => x = .returned (.tuple #[.int .i64 0, .int .i64 0, .int .i64 15]) ∧ Below w.heap.size w w' := by
  have b1 : (d == 0) = false := beq_eq_false_iff_ne.2 (by omega)
  have d2 : decide (2147483647 < d) = false := by simp; omega
  have d3 : decide (d < -2147483647) = false := by simp; omega
  clear h
  go_enter Tryz.func32, Tryz.ntmps32
  go_wp2_with (go_at_call 75; refine (residue_any d 4 _ (by omega) (by omega)).mono ?_; rintro x w' ⟨rfl, rfl⟩)
  refine bodyPost_ret (v := .tuple #[.int .i64 0, .int .i64 0, .int .i64 15]) (by simp [results, Tryz.results32, go_sem]) rfl ⟨rfl, ?_⟩
  go_grown

set_option maxHeartbeats 2000000 in
set_option maxRecDepth 100000 in
theorem fund_ok (d : Int) (w : World) (h : ¬ (d = 0 ∨ 2147483647 < d ∨ d < -2147483647)) (h4 : ¬ 1 < d % 4) :
    Calls Tryz.prog 32 #[.int .i64 d] w fun x w' => x = .returned (.tuple #[.int .i64 (fundOut d).1, .int .i64 (fundOut d).2.1, .int .i64 (fundOut d).2.2]) ∧ Below w.heap.size w w' := by
  have hmf : ∀ (fn : Fn) (first cap : Array Value) (w : World), (Instr.makeFunc fn first cap).run Tryz.prog w = .ok (.func fn first cap) w := fun _ _ _ _ => rfl
  have b1 : (d == 0) = false := beq_eq_false_iff_ne.2 (by omega)
  have d2 : decide (2147483647 < d) = false := by simp; omega
  have d3 : decide (d < -2147483647) = false := by simp; omega
  have d4 : decide (1 < d % 4) = false := by simpa using h4
  have hout : (fundT d % 4 = 1 → fundOut d = (fundT d, sqL (facs d.natAbs), 0)) ∧ (¬ fundT d % 4 = 1 → fundOut d = (4 * fundT d, sqL (facs d.natAbs) / 2, 0)) := by
    rcases fund_cases d with ⟨_, e⟩ | ⟨_, _, e⟩ | ⟨_, _, ⟨h3, e⟩ | ⟨h3, e⟩⟩
    · exact absurd e h
    · exact absurd e h4
    · exact ⟨fun _ => e, fun x => absurd h3 x⟩
    · exact ⟨fun x => absurd x h3, fun _ => e⟩
  unfold fundT at hout
  have hd : (d < 0 ∧ d = -(d.natAbs : Int)) ∨ (0 < d ∧ d = (d.natAbs : Int)) := by omega
  have hn0 : 0 < d.natAbs := by omega
  have hn1 : d.natAbs ≤ 2147483647 := by omega
  generalize d.natAbs = n at *
  have hbd : ∀ p e, (p, e) ∈ facs n → 1 ≤ p ∧ p ≤ 2147483648 ∧ e ≤ 2147483648 ∧ p ^ (e % 2) ≤ 2147483648 ∧ p ^ (e / 2) ≤ 2147483648 := fun p e hx => by
    obtain ⟨_, b, c, d, f, g, _⟩ := facs_bounds hn0 hx
    have hpe : p ^ e ≤ n := by assumption
    have k1 : p ^ (e % 2) ≤ p ^ e := Nat.pow_le_pow_right (by omega) (by omega)
    have k2 : p ^ (e / 2) ≤ p ^ e := Nat.pow_le_pow_right (by omega) (by omega)
    exact ⟨by omega, by omega, by omega, by omega, by omega⟩
  have hfp := fun l r (h : facs n = l ++ r) => fr_bd hn0 h
  have hqp := fun l r (h : facs n = l ++ r) => sq_bd hn0 h
  have key : ∀ (wr : World) (hI : FundI w [] wr), Calls Tryz.prog 76 #[.int .i64 n, .func (.func 77) #[] #[.pointer (some ⟨w.heap.size + 1, 0, none⟩), .pointer (some ⟨w.heap.size, 0, none⟩)]] wr fun e w' => e = .returned (.tuple #[]) ∧ FundI w (facs n) w' := by
    intro wr hI
    refine factors_any 77 _ enters77 n wr hn0 (by omega) (FundI w) hI ?_
    intro l p e r wr' hl hI'
    have hm : (p, e) ∈ facs n := by rw [hl]; simp
    obtain ⟨k1, k2, k3, k4, k5⟩ := hbd p e hm
    refine (fund1_any p e (frL l) (sqL l) (w.heap.size + 1) w.heap.size wr' (by omega) k1 k2 k3 k4 k5 hI'.1 hI'.2.1 hI'.2.2.1 hI'.2.2.2.1).mono ?_
    rintro x w' ⟨rfl, m, k, rfl⟩
    have a := hfp (l ++ [(p, e)]) r (by rw [hl, List.append_assoc]; rfl)
    have b := hqp (l ++ [(p, e)]) r (by rw [hl, List.append_assoc]; rfl)
    exact ⟨rfl, fundI_step hI' (by omega) (by omega)⟩
  have hfb := fr_bd hn0 (r := []) (List.append_nil _).symm
  have hqb := sq_bd hn0 (r := []) (List.append_nil _).symm
  unfold FundI at key
  generalize frL (facs n) = Fr at *
  generalize sqL (facs n) = Sq at *
  obtain ⟨fb1, fb2⟩ := hfb
  obtain ⟨qb1, qb2⟩ := hqb
  have KEY := Lib.hid key
  clear key hbd hfp hqp h h4
  obtain ⟨hT1, hT2⟩ := hout
  rcases hd with ⟨hd, rfl⟩ | ⟨hd, rfl⟩
  · rw [if_pos hd, show (-1 : Int) * Fr = -Fr by omega] at hT1 hT2
    have HT1 := Lib.hid hT1
    have HT2 := Lib.hid hT2
    clear hT1 hT2
    go_enter Tryz.func32, Tryz.ntmps32
    go_wp2_with (first
      | (go_at_call 75; refine (residue_any (-(n : Int)) 4 _ (by omega) (by omega)).mono ?_; rintro x w' ⟨rfl, rfl⟩)
      | fail)
    refine (KEY.out _ ⟨?_, ?_, ?_, ?_, ?_⟩).mono ?_
    · rw [World.cell?_alloc_at _ _ _ _ (by simp)]; rfl
    · exact World.frozen?_alloc_at _ _ _ _ (by simp)
    · rw [World.cell?_alloc_past _ _ _ (by simp), World.cell?_alloc_at _ _ _ _ rfl]; rfl
    · exact (World.frozen?_alloc_past _ _ _ (by simp)).trans (World.frozen?_alloc_at _ _ _ _ rfl)
    · exact ((Below.refl _ _).alloc (Nat.le_refl _) _).alloc (by simp) _
    rintro x w' ⟨rfl, c6, f6, c3, f3, hb⟩
    have HB := Lib.hid hb
    have hne : w.heap.size ≠ w.heap.size + 1 := by omega
    have hB6 : w.heap.size ≤ w.heap.size + 1 := by omega
    have hB3 : w.heap.size ≤ w.heap.size := by omega
    clear hb KEY
    generalize w.heap.size + 1 = B6 at *
    generalize hH : w.heap.size = B3 at c3 f3 hne hB3 ⊢
    have s3 : ∀ v, (w'.setCell ⟨B6, 0, none⟩ v).cell? ⟨B3, 0, none⟩ = some (.int .i64 Sq) := fun v => (World.cell?_setCell_other _ _ _ _ (by simp)).trans c3
    have s6 : ∀ v, (w'.setCell ⟨B6, 0, none⟩ v).cell? ⟨B6, 0, none⟩ = some v := fun v => World.cell?_setCell_same _ _ _ c6
    have t3 : ∀ v, (w'.setCell ⟨B6, 0, none⟩ v).frozen? ⟨B3, 0, none⟩ = false := fun v => (World.frozen?_setCell _ _ _ _).trans f3
    have q3 : ∀ v v', ((w'.setCell ⟨B6, 0, none⟩ v).setCell ⟨B3, 0, none⟩ v').cell? ⟨B3, 0, none⟩ = some v' := fun v v' => World.cell?_setCell_same _ _ _ (s3 v)
    by_cases ht : -Fr % 4 = 1
    · have hb1 : (-Fr % 4 != 1) = false := by simpa using ht
      have OUT := Lib.hid (HT1.out ht)
      clear ht HT1 HT2
      go_wp2_with (go_at_call 75; refine (residue_any (-Fr) 4 _ (by omega) (by omega)).mono ?_; rintro x w'' ⟨rfl, rfl⟩)
      go_region
      all_goals go_wp2
      all_goals refine bodyPost_ret (v := .tuple #[.int .i64 (-Fr), .int .i64 (Sq), .int .i64 0]) (by simp [results, Tryz.results32, go_sem, q3]) rfl ⟨by rw [OUT.out], ?_⟩
      all_goals exact below_drewN ((HB.out.setCell (show w.heap.size ≤ B6 by omega) _).setCell (show w.heap.size ≤ B3 by omega) _) 1
    · have hb1 : (-Fr % 4 != 1) = true := by simpa using ht
      have OUT := Lib.hid (HT2.out ht)
      clear ht HT1 HT2
      go_wp2_with (go_at_call 75; refine (residue_any (-Fr) 4 _ (by omega) (by omega)).mono ?_; rintro x w'' ⟨rfl, rfl⟩)
      go_region
      all_goals go_wp2
      all_goals refine bodyPost_ret (v := .tuple #[.int .i64 (4 * -Fr), .int .i64 (Sq / 2), .int .i64 0]) (by simp [results, Tryz.results32, go_sem, q3]) rfl ⟨by rw [OUT.out], ?_⟩
      all_goals exact below_drewN ((HB.out.setCell (show w.heap.size ≤ B6 by omega) _).setCell (show w.heap.size ≤ B3 by omega) _) 1
  · rw [if_neg (by omega), Int.one_mul] at hT1 hT2
    have HT1 := Lib.hid hT1
    have HT2 := Lib.hid hT2
    clear hT1 hT2
    go_enter Tryz.func32, Tryz.ntmps32
    go_wp2_with (first
      | (go_at_call 75; refine (residue_any ((n : Int)) 4 _ (by omega) (by omega)).mono ?_; rintro x w' ⟨rfl, rfl⟩)
      | fail)
    refine (KEY.out _ ⟨?_, ?_, ?_, ?_, ?_⟩).mono ?_
    · rw [World.cell?_alloc_at _ _ _ _ (by simp)]; rfl
    · exact World.frozen?_alloc_at _ _ _ _ (by simp)
    · rw [World.cell?_alloc_past _ _ _ (by simp), World.cell?_alloc_at _ _ _ _ rfl]; rfl
    · exact (World.frozen?_alloc_past _ _ _ (by simp)).trans (World.frozen?_alloc_at _ _ _ _ rfl)
    · exact ((Below.refl _ _).alloc (Nat.le_refl _) _).alloc (by simp) _
    rintro x w' ⟨rfl, c6, f6, c3, f3, hb⟩
    have HB := Lib.hid hb
    have hne : w.heap.size ≠ w.heap.size + 1 := by omega
    have hB6 : w.heap.size ≤ w.heap.size + 1 := by omega
    have hB3 : w.heap.size ≤ w.heap.size := by omega
    clear hb KEY
    generalize w.heap.size + 1 = B6 at *
    generalize hH : w.heap.size = B3 at c3 f3 hne hB3 ⊢
    have s3 : ∀ v, (w'.setCell ⟨B6, 0, none⟩ v).cell? ⟨B3, 0, none⟩ = some (.int .i64 Sq) := fun v => (World.cell?_setCell_other _ _ _ _ (by simp)).trans c3
    have s6 : ∀ v, (w'.setCell ⟨B6, 0, none⟩ v).cell? ⟨B6, 0, none⟩ = some v := fun v => World.cell?_setCell_same _ _ _ c6
    have t3 : ∀ v, (w'.setCell ⟨B6, 0, none⟩ v).frozen? ⟨B3, 0, none⟩ = false := fun v => (World.frozen?_setCell _ _ _ _).trans f3
    have q3 : ∀ v', (w'.setCell ⟨B3, 0, none⟩ v').cell? ⟨B3, 0, none⟩ = some v' := fun v' => World.cell?_setCell_same _ _ _ c3
    by_cases ht : Fr % 4 = 1
    · have hb1 : (Fr % 4 != 1) = false := by simpa using ht
      have OUT := Lib.hid (HT1.out ht)
      clear ht HT1 HT2
      go_wp2_with (go_at_call 75; refine (residue_any (Fr) 4 _ (by omega) (by omega)).mono ?_; rintro x w'' ⟨rfl, rfl⟩)
      go_region
      all_goals go_wp2
      all_goals refine bodyPost_ret (v := .tuple #[.int .i64 (Fr), .int .i64 (Sq), .int .i64 0]) (by simp [results, Tryz.results32, go_sem, q3]) rfl ⟨by rw [OUT.out], ?_⟩
      all_goals exact below_drewN (HB.out.setCell (show w.heap.size ≤ B3 by omega) _) 1
    · have hb1 : (Fr % 4 != 1) = true := by simpa using ht
      have OUT := Lib.hid (HT2.out ht)
      clear ht HT1 HT2
      go_wp2_with (go_at_call 75; refine (residue_any (Fr) 4 _ (by omega) (by omega)).mono ?_; rintro x w'' ⟨rfl, rfl⟩)
      go_region
      all_goals go_wp2
      all_goals refine bodyPost_ret (v := .tuple #[.int .i64 (4 * Fr), .int .i64 (Sq / 2), .int .i64 0]) (by simp [results, Tryz.results32, go_sem, q3]) rfl ⟨by rw [OUT.out], ?_⟩
      all_goals exact below_drewN (HB.out.setCell (show w.heap.size ≤ B3 by omega) _) 1

theorem fund_any (d : Int) (w : World) : Calls Tryz.prog 32 #[.int .i64 d] w fun x w' => x = .returned (.tuple #[.int .i64 (fundOut d).1, .int .i64 (fundOut d).2.1, .int .i64 (fundOut d).2.2]) ∧ Below w.heap.size w w' := by
  rcases fund_cases d with ⟨e, h⟩ | ⟨e, h, h4⟩ | ⟨h, h4, _⟩
  · rw [e]; exact fund_range d w h
  · rw [e]; exact fund_bad d w h h4
  · exact fund_ok d w h h4
end Go.Proofs.YtdjfndfkjbjcpaaGreatDoor
