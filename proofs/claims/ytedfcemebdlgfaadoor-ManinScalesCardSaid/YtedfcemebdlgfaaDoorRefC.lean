/- The walk of the reference's Factor. -/
import Derived.Test.YtedfcemebdlgfaaDoorRefB
namespace Go.Proofs.YtedfcemebdlgfaaDoor
open Go.RowKit HP

theorem infoPP : (Tryd.prog.info? 120).map (fun i => (i.zero, i.size, i.bytes)) = some (some (.agg #[.int .i64 0, .int .i64 0]), 2, 16) := by kernel_rfl

/-- the cells of a factorization -/
def ppCells : List (Nat × Nat) → List Value
  | [] => []
  | (p, e) :: l => .int .i64 p :: .int .i64 e :: ppCells l
theorem ppCells_append : ∀ l m, ppCells (l ++ m) = ppCells l ++ ppCells m
  | [], m => rfl
  | (p, e) :: l, m => by simp [ppCells, ppCells_append l m]
theorem ppCells_at : ∀ (l : List (Nat × Nat)) (i p e : Nat), l[i]? = some (p, e) → (ppCells l)[i * 2]? = some (.int .i64 p) ∧ (ppCells l)[i * 2 + 1]? = some (.int .i64 e)
  | [], i, p, e, h => by simp at h
  | (q, f) :: l, 0, p, e, h => by
    simp only [List.getElem?_cons_zero, Option.some.injEq, Prod.mk.injEq] at h
    obtain ⟨rfl, rfl⟩ := h
    exact ⟨rfl, rfl⟩
  | (q, f) :: l, i + 1, p, e, h => by
    have := ppCells_at l i p e (by simpa using h)
    have e1 : (i + 1) * 2 = i * 2 + 1 + 1 := by omega
    rw [e1]
    exact this

/-- a slice value that reads as a factorization -/
def PPAt (B : Nat) (w : World) (v : Value) (l : List (Nat × Nat)) : Prop :=
  (v = .slice none 0 0 ∧ l = []) ∨ ∃ g cap, v = .slice (some ⟨g, 0, none⟩) l.length cap ∧ B ≤ g ∧ g < w.heap.size ∧
    ∀ (i p e : Nat), l[i]? = some (p, e) → w.cell? ⟨g, i * 2, none⟩ = some (.int .i64 p) ∧ w.cell? ⟨g, i * 2 + 1, none⟩ = some (.int .i64 e)
theorem ppAt_of_owns {B : Nat} {w : World} {v : Value} {l : List (Nat × Nat)} {t : TypeId} (h : w.ownsRow B t 2 v l.length (ppCells l)) : PPAt B w v l := by
  rcases h.2 with ⟨rfl, h0⟩ | ⟨g, cap, cur, rfl, hg, hb, h1, h2, h3, h4⟩
  · exact .inl ⟨rfl, List.length_eq_zero_iff.1 h0⟩
  · refine .inr ⟨g, cap, rfl, hg, ?_, fun i p e hi => ?_⟩
    · exact (Array.getElem?_eq_some_iff.1 hb).1
    · obtain ⟨c1, c2⟩ := ppCells_at l i p e hi
      have hil : i < l.length := (List.getElem?_eq_some_iff.1 hi).1
      exact ⟨(h.cellAt (i * 2) (by omega)).trans c1, (h.cellAt (i * 2 + 1) (by omega)).trans c2⟩
theorem pair_one (k : IntKind) (a b : Int) : ∀ u ∈ [Value.int k a, Value.int k b], u.oneCell' = true := by
  intro u hu
  simp at hu
  rcases hu with rfl | rfl <;> rfl
/-- behind an append -/
theorem owns_next {w wr w1 : World} {v v' : Value} {l : List (Nat × Nat)} {t : TypeId} {p e : Nat} {o : Obj} (hown : wr.ownsRow w.heap.size t 2 v l.length (ppCells l)) (hb : Below w.heap.size w wr)
    (hown' : w1.ownsRow w.heap.size t 2 v' (l.length + 1) (ppCells l ++ [.int .i64 p, .int .i64 e])) (hg : (wr.alloc o).grownBy w1 v.ownBlock) :
    w1.ownsRow w.heap.size t 2 v' (l ++ [(p, e)]).length (ppCells (l ++ [(p, e)])) ∧ Below w.heap.size w w1 := by
  refine ⟨by rw [ppCells_append, List.length_append]; exact hown', ?_⟩
  exact (hb.alloc (by have := hb.size; omega) o).grown hg (by have := hb.size; simp; omega) (fun k hk => (hown.lt k hk).1)

set_option maxHeartbeats 1000000 in
set_option maxRecDepth 100000 in
theorem rfactor_any (N : Nat) (w : World) (hN0 : 0 < N) (hN : N ≤ 2147483648) :
    Calls Tryd.prog 74 #[.int .i64 N] w fun x w' => ∃ v, x = .returned v ∧ PPAt w.heap.size w' v (facs N) ∧ Below w.heap.size w w' := by
  obtain ⟨i0, hi, hz0, hz1, hz2⟩ := info_parts infoPP
  go_enter Tryd.func74, Tryd.ntmps74
  go_wp2
  go_loopw [0, 3, 4] (fun x v y wr => ∃ (n p : Nat) (l : List (Nat × Nat)), x = .int .i64 n ∧ y = .int .i64 p ∧ 0 < n ∧ n ≤ N ∧ 2 ≤ p ∧ p ≤ N + 2 ∧ Hid (Rough p n) ∧ Hid (facs N = l ++ facs n) ∧ Hid (wr.ownsRow w.heap.size 120 2 v l.length (ppCells l)) ∧ Hid (Below w.heap.size w wr)) (fun _ _ y _ => N + 3 - (intOf y).toNat)
  case atStart => exact ⟨N, 2, [], rfl, rfl, hN0, Nat.le_refl _, by omega, by omega, rough_two N, rfl, World.ownsRow_nil _ _ _ _, Below.refl _ _⟩
  case round =>
    obtain ⟨n, p, l, rfl, rfl, h1, h2, h3, h4, h5, h6, HO, HB⟩ := hrel
    have hlen := prefix_len hN0 h6.out
    have hsz := HB.out.size
    by_cases hpp : p * p ≤ n
    · have hpp' : (p : Int) * p ≤ (n : Int) := by exact_mod_cast hpp
      have hpos : 0 ≤ (p : Int) * p := Int.mul_nonneg (by omega) (by omega)
      have hpl : p ≤ n := Nat.le_trans (Nat.le_mul_of_pos_right p (by omega)) hpp
      have hrn := h5.out
      by_cases hpd : n % p = 0
      · have hdv0 := Nat.dvd_of_mod_eq_zero hpd
        clear hpd
        go_wp2
        go_loop [0, 5] (fun x k => ∃ (m j : Nat), x = .int .i64 m ∧ k = .int .i64 j ∧ 0 < m ∧ m ≤ n ∧ j + m ≤ n + 1 ∧ Hid (mlt p n = j + mlt p m) ∧ Hid (strip p n = strip p m)) (fun x _ => (intOf x).toNat)
        case atStart => exact ⟨n, 0, rfl, rfl, h1, Nat.le_refl _, by omega, (Nat.zero_add _).symm, rfl⟩
        case round =>
          obtain ⟨m, j, rfl, rfl, k1, k2, k3, k4, k5⟩ := hrel
          by_cases hd : m % p = 0
          · have hd' : ((m : Int) % p == 0) = true := by rw [beq_iff_eq]; omega
            have hle : p ≤ m := Nat.le_of_dvd k1 (Nat.dvd_of_mod_eq_zero hd)
            have hdv : 0 < m / p := Nat.div_pos hle (by omega)
            have hlt : m / p < m := Nat.div_lt_self k1 (by omega)
            have hcast : (m : Int) / p = ((m / p : Nat) : Int) := by simp
            have k4' := k4.out
            have k5' := k5.out
            rw [mlt_yes (by omega) k1 hd] at k4'
            rw [strip_yes (by omega) k1 hd] at k5'
            have K4 := Lib.hid k4'
            have K5 := Lib.hid k5'
            clear k4 k5 k4' k5'
            generalize m / p = q at *
            go_wp2
            go_round
            case rel => exact ⟨q, j + 1, by rw [← hcast], by go_num, hdv, by omega, by omega, by rw [Hid, K4.out]; omega, K5.out⟩
            case measure => simp [intOf]; omega
          · have hd' : ((m : Int) % p == 0) = false := by rw [beq_eq_false_iff_ne]; omega
            have ej := k4.out
            have es := k5.out
            rw [mlt_no hd] at ej
            rw [strip_no hd] at es
            obtain rfl : m = strip p n := es.symm
            obtain rfl : j = mlt p n := by omega
            clear k4 k5 ej es
            have hmp := mlt_pos (p := p) (n := n) (by omega) h1 hdv0
            obtain ⟨hfr, _⟩ := facs_round h3 h1 hrn hdv0
            have hfr' := h6.out
            rw [hfr] at hfr'
            have hnx := rough_next (rough_dvd hrn (strip_dvd p n)) (strip_not (p := p) (n := n) (by omega) h1)
            have F := Lib.hid hfr'
            have NX := Lib.hid hnx
            clear hfr hfr' hnx hd h6
            generalize strip p n = q at *
            generalize mlt p n = e at *
            have hown := HO.out
            go_wp2_with (at_builtin; refine wpList_append_own _ rfl _ _ 117 rfl w.heap.size 120 i0 (.agg #[.int .i64 0, .int .i64 0]) 2 16 Tryd.underlying117 hi hz0 hz1 hz2 rfl (by decide) _ _ _ rfl (hown.alloc _) ⟨wr.heap.size, 0, none⟩ 1 1 [.int .i64 p, .int .i64 e] rfl rfl (cell_two_new _ _ _ _) (pair_one _ _ _) (by unfold maxLen; omega) (by omega) (by simp; omega) ?_)
            · intro v' w1 hown' hgrow _
              obtain ⟨o1, o2⟩ := owns_next hown HB.out hown' hgrow
              have O1 := Lib.hid o1
              have O2 := Lib.hid o2
              clear hown' hgrow hown o1 o2
              go_wp2
              go_roundw
              case rel => exact ⟨q, p + 1, l ++ [(p, e)], rfl, by go_num, k1, by omega, by omega, by omega, NX.out, by rw [F.out, List.append_assoc]; rfl, O1.out, O2.out⟩
              case measure => simp [intOf]; omega
      · go_wp2
        go_loop [0, 5] (fun x k => ∃ (m j : Nat), x = .int .i64 m ∧ k = .int .i64 j ∧ 0 < m ∧ m ≤ n ∧ j + m ≤ n + 1 ∧ Hid (mlt p n = j + mlt p m) ∧ Hid (strip p n = strip p m)) (fun x _ => (intOf x).toNat)
        case atStart => exact ⟨n, 0, rfl, rfl, h1, Nat.le_refl _, by omega, (Nat.zero_add _).symm, rfl⟩
        case round =>
          obtain ⟨m, j, rfl, rfl, k1, k2, k3, k4, k5⟩ := hrel
          by_cases hd : m % p = 0
          · have hd' : ((m : Int) % p == 0) = true := by rw [beq_iff_eq]; omega
            have hle : p ≤ m := Nat.le_of_dvd k1 (Nat.dvd_of_mod_eq_zero hd)
            have hdv : 0 < m / p := Nat.div_pos hle (by omega)
            have hlt : m / p < m := Nat.div_lt_self k1 (by omega)
            have hcast : (m : Int) / p = ((m / p : Nat) : Int) := by simp
            have k4' := k4.out
            have k5' := k5.out
            rw [mlt_yes (by omega) k1 hd] at k4'
            rw [strip_yes (by omega) k1 hd] at k5'
            have K4 := Lib.hid k4'
            have K5 := Lib.hid k5'
            clear k4 k5 k4' k5'
            generalize m / p = q at *
            go_wp2
            go_round
            case rel => exact ⟨q, j + 1, by rw [← hcast], by go_num, hdv, by omega, by omega, by rw [Hid, K4.out]; omega, K5.out⟩
            case measure => simp [intOf]; omega
          · have hd' : ((m : Int) % p == 0) = false := by rw [beq_eq_false_iff_ne]; omega
            have ej := k4.out
            have es := k5.out
            rw [mlt_no hd] at ej
            rw [strip_no hd] at es
            obtain rfl : m = strip p n := es.symm
            obtain rfl : j = mlt p n := by omega
            clear k4 k5 ej es
            have e0 : mlt p n = 0 := mlt_no hpd
            have es0 : strip p n = n := strip_no hpd
            rw [es0, e0]
            rw [es0] at hd'
            have NX := Lib.hid (rough_next hrn (fun hx => hpd (Nat.mod_eq_zero_of_dvd hx)))
            clear e0 es0
            go_wp2
            go_roundw
            case rel => exact ⟨n, p + 1, l, rfl, by go_num, h1, h2, by omega, by omega, NX.out, h6, HO, HB⟩
            case measure => simp [intOf]; omega
    · have hpp' : (n : Int) < (p : Int) * p := by exact_mod_cast Nat.lt_of_not_le hpp
      have hsq : (p : Int) * p ≤ 9223372036854775807 := Int.le_trans (Int.mul_le_mul (c := 2147483650) (d := 2147483650) (by omega) (by omega) (by omega) (by omega)) (by decide)
      have hdec : decide ((p : Int) * p ≤ (n : Int)) = false := by simpa using hpp'
      by_cases hn : n = 1
      · obtain rfl := hn
        have e := h6.out
        rw [facs_small (n := 1) (by omega), List.append_nil] at e
        have E := Lib.hid e
        clear e h6
        go_wp2
        go_ret
        exact ⟨_, rfl, by rw [E.out]; exact ppAt_of_owns HO.out, HB.out⟩
      · obtain ⟨hpr, hrn⟩ := rough_prime (by omega) h5.out (Nat.lt_of_not_le hpp)
        have e := h6.out
        rw [facs_prime hpr] at e
        have E := Lib.hid e
        clear e h6
        have hown := HO.out
        go_wp2_with (at_builtin; refine wpList_append_own _ rfl _ _ 117 rfl w.heap.size 120 i0 (.agg #[.int .i64 0, .int .i64 0]) 2 16 Tryd.underlying117 hi hz0 hz1 hz2 rfl (by decide) _ _ _ rfl (hown.alloc _) ⟨wr.heap.size, 0, none⟩ 1 1 [.int .i64 n, .int .i64 1] rfl rfl (cell_two_new _ _ _ _) (pair_one _ _ _) (by unfold maxLen; omega) (by omega) (by simp; omega) ?_)
        · intro v' w1 hown' hgrow _
          obtain ⟨o1, o2⟩ := owns_next (p := n) (e := 1) hown HB.out hown' hgrow
          have O1 := Lib.hid o1
          have O2 := Lib.hid o2
          clear hown' hgrow hown o1 o2
          go_wp2
          go_ret
          exact ⟨_, rfl, by rw [E.out]; exact ppAt_of_owns O1.out, O2.out⟩
end Go.Proofs.YtedfcemebdlgfaaDoor
