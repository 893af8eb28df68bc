/- The sieve of arith.Primes. -/
import Derived.Test.YtjmldlbiihaefaaDoorAriL
import Derived.Deep.OwnRows
import Derived.Laws.OwnMore
namespace Go.Proofs.YtjmldlbiihaefaaDoor
open Go.RowKit HP

theorem infoBool : (Tryd.prog.info? 4).map (fun i => (i.zero, i.size, i.bytes)) = some (some (.bool false), 1, 1) := by kernel_rfl

/-- a row of truth values that says a property of its numbers -/
def SvRow (wr : World) (H n : Nat) (P : Nat → Prop) : Prop :=
  ∃ xs : List Value, wr.ownsRow H 4 1 (.slice (some ⟨H, 0, none⟩) n n) n xs ∧ ∀ j, j < n → ∃ b, xs[j]? = some (.bool b) ∧ (b = true ↔ P j)
theorem svRow_read {wr : World} {H n : Nat} {P : Nat → Prop} (h : SvRow wr H n P) {j : Nat} (hj : j < n) : ∃ b, wr.cell? ⟨H, j, none⟩ = some (.bool b) ∧ (b = true ↔ P j) := by
  obtain ⟨xs, h1, h2⟩ := h
  obtain ⟨b, hb, hp⟩ := h2 j hj
  exact ⟨b, (h1.cellAt j (by omega)).trans hb, hp⟩
theorem svRow_frozen {wr : World} {H n : Nat} {P : Nat → Prop} (h : SvRow wr H n P) (j : Nat) : wr.frozen? ⟨H, j, none⟩ = false := by
  obtain ⟨xs, h1, _⟩ := h
  exact h1.frozenAt j
theorem svRow_lt {wr : World} {H n : Nat} {P : Nat → Prop} (h : SvRow wr H n P) : H < wr.heap.size := by
  obtain ⟨xs, h1, _⟩ := h
  exact (h1.lt H rfl).2
theorem svRow_congr {wr : World} {H n : Nat} {P Q : Nat → Prop} (h : SvRow wr H n P) (hq : ∀ j, j < n → (P j ↔ Q j)) : SvRow wr H n Q := by
  obtain ⟨xs, h1, h2⟩ := h
  refine ⟨xs, h1, fun j hj => ?_⟩
  obtain ⟨b, hb, hp⟩ := h2 j hj
  exact ⟨b, hb, hp.trans (hq j hj)⟩
theorem svRow_kept {wr w1 : World} {H n : Nat} {P : Nat → Prop} {row : Option Nat} (h : SvRow wr H n P) (hg : wr.grownBy w1 row) (hne : row ≠ some H) : SvRow w1 H n P := by
  obtain ⟨xs, h1, h2⟩ := h
  exact ⟨xs, h1.kept hg (.inr fun e => hne e.symm), h2⟩
theorem svRow_store {wr : World} {H n : Nat} {P Q : Nat → Prop} (h : SvRow wr H n P) {m : Nat} (hq : ∀ j, j < n → (Q j ↔ P j ∨ j = m)) :
    SvRow (wr.setCell ⟨H, m, none⟩ (.bool true)) H n Q ∧ wr.grownBy (wr.setCell ⟨H, m, none⟩ (.bool true)) (some H) := by
  obtain ⟨xs, h1, h2⟩ := h
  obtain ⟨s1, s2⟩ := h1.stored m (.bool true)
  refine ⟨⟨_, s1, fun j hj => ?_⟩, s2⟩
  obtain ⟨b, hb, hp⟩ := h2 j hj
  have hjl : j < xs.length := (List.getElem?_eq_some_iff.1 hb).1
  by_cases e : m = j
  · subst e
    refine ⟨true, by rw [List.getElem?_set_self hjl], ?_⟩
    simp [hq m hj]
  · refine ⟨b, by rw [List.getElem?_set_ne e]; exact hb, ?_⟩
    rw [hq j hj, hp]
    constructor
    · exact .inl
    · rintro (h3 | h3)
      · exact h3
      · exact absurd h3.symm e
theorem svRow_made (w : World) (n : Nat) (hn : n ≤ maxLen) : SvRow (w.alloc (.cells (madeCells #[.bool false] n) 4)) w.heap.size n (Sv 2) := by
  refine ⟨_, World.ownsRow_lit w (madeCells #[.bool false] n) n (Nat.le_refl _) hn (by rw [size_madeCells]; omega), fun j hj => ⟨false, ?_, ?_⟩⟩
  · rw [toList_madeCells_one, List.getElem?_replicate, if_pos hj]
  · simp [sv_two]

theorem primes_no (k : Int) (w : World) (hk : 1048576 < k) : Calls Tryd.prog 29 #[.int .i64 k] w fun x w' => x = .returned (.tuple #[.slice none 0 0, .int .i64 2]) ∧ w = w' := by
  have d1 : decide (1048576 < k) = true := by simpa using hk
  go_enter Tryd.func29, Tryd.ntmps29
  go_wp2
  go_ret2
  exact ⟨rfl, rfl⟩

set_option maxHeartbeats 2000000 in
set_option maxRecDepth 100000 in
theorem primes_any (K : Nat) (w : World) (hK2 : 2 ≤ K) (hk : K ≤ 1048576) :
    Calls Tryd.prog 29 #[.int .i64 K] w fun x w' => ∃ v, x = .returned (.tuple #[v, .int .i64 0]) ∧ IntsAt w.heap.size w' v (prmsI K) ∧ Below w.heap.size w w' := by
  obtain ⟨i0, hi, hz0, hz1, hz2⟩ := info_parts infoInt
  have hmk : ∀ W : World, (Instr.makeSlice 81 (.int .i64 ((K : Int) + 1)) (.int .i64 ((K : Int) + 1))).run Tryd.prog W = .ok (.slice (some ⟨W.heap.size, 0, none⟩) (K + 1) (K + 1)) (W.alloc (.cells (madeCells #[.bool false] (K + 1)) 4)) := fun W => by
    have e : (K : Int) + 1 = ((K + 1 : Nat) : Int) := by omega
    rw [e]
    exact run_make_row' 81 4 (.bool false) 1 Tryd.underlying81 infoBool rfl .i64 .i64 (K + 1) (by omega) (by omega) W
  have hsv := svRow_made w (K + 1) (by unfold maxLen; omega)
  have hbel : Below w.heap.size w (w.alloc (.cells (madeCells #[.bool false] (K + 1)) 4)) := (Below.refl _ _).alloc (Nat.le_refl _) _
  have HSV := Lib.hid hsv
  have HBEL := Lib.hid hbel
  clear hsv hbel
  go_enter Tryd.func29, Tryd.ntmps29
  go_wp2
  go_loopw [5, 6] (fun v y wr => ∃ (p : Nat) (l : List Int), y = .int .i64 p ∧ 2 ≤ p ∧ p ≤ K + 1 ∧ l.length ≤ p ∧ Hid (prmsI (p - 1) = l) ∧ Hid (wr.ownsRow (w.heap.size + 1) 3 1 v l.length (intCells l)) ∧ Hid (SvRow wr w.heap.size (K + 1) (Sv p)) ∧ Hid (Below w.heap.size w wr)) (fun _ y _ => K + 3 - (intOf y).toNat)
  case atStart => exact ⟨2, [], rfl, by omega, by omega, by simp, prmsI_one, World.ownsRow_nil _ _ _ _, HSV.out, HBEL.out⟩
  case round =>
    obtain ⟨p, l, rfl, h1, h2, h3, HL, HO, HS, HB⟩ := hrel
    have hsz := HB.out.size
    have hsz1 := svRow_lt HS.out
    by_cases hp : p ≤ K
    · obtain ⟨b, hc, hbp⟩ := svRow_read HS.out (j := p) (by omega)
      have hsq : (p : Int) * p ≤ 1048576 * 1048576 := Int.mul_le_mul (by omega) (by omega) (by omega) (by omega)
      have hsq0 : 0 ≤ (p : Int) * p := Int.mul_nonneg (by omega) (by omega)
      have hsqn : p * p ≤ 1099511627776 := by
        have := Nat.mul_le_mul (show p ≤ 1048576 by omega) (show p ≤ 1048576 by omega)
        omega
      cases hpb : prmB p with
      | true =>
        have hb : b = false := by
          cases b with
          | false => rfl
          | true => rw [(sv_self h1).1 (hbp.1 rfl)] at hpb; cases hpb
        subst hb
        have e : prmsI (p + 1 - 1) = l ++ [(p : Int)] := by
          have := prmsI_yes (n := p - 1) (by rw [show p - 1 + 1 = p by omega]; exact hpb)
          rw [show p - 1 + 1 = p by omega, HL.out] at this
          exact this
        have E := Lib.hid e
        have HPB := Lib.hid hpb
        clear e hpb HL hbp
        have hown := HO.out
        go_wp2_with (at_builtin; refine wpList_append_own _ rfl _ _ 46 rfl (w.heap.size + 1) 3 i0 (.int .i64 0) 1 8 Tryd.underlying46 hi hz0 hz1 hz2 rfl (by decide) _ _ _ rfl (hown.alloc _) ⟨wr.heap.size, 0, none⟩ 1 1 [.int .i64 p] rfl rfl (cell_one_new _ _ _) (one_one _ _) (by unfold maxLen; omega) (by omega) (by simp; omega) ?_)
        intro v' w1 hown' hgrow _
        have hS1 : SvRow w1 w.heap.size (K + 1) (SvAt p (p * p)) := by
          refine svRow_congr (svRow_kept (svRow_kept HS.out (World.grownBy_alloc _ _ none) (by simp)) hgrow (fun e => ?_)) (fun j _ => svAt_start.symm)
          have := (hown.lt _ e).1
          omega
        obtain ⟨o1, o2⟩ := owns_next1 hown (by omega) HB.out hown' hgrow
        have O1 := Lib.hid o1
        have O2 := Lib.hid o2
        have S1 := Lib.hid hS1
        clear hown' hgrow hown o1 o2 hS1 hc
        have HSQ := Lib.hid (show (p : Int) * p = ((p * p : Nat) : Int) by simp)
        have hdv : p ∣ p * p := Nat.dvd_mul_right p p
        have HDV := Lib.hid hdv
        have HLE := Lib.hid (Nat.le_refl (p * p))
        go_wp2
        go_loopw [7] (fun z wr2 => ∃ m : Nat, z = .int .i64 m ∧ m ≤ 1099511627776 ∧ Hid (p * p ≤ m) ∧ Hid (p ∣ m) ∧ Hid (wr2.ownsRow (w.heap.size + 1) 3 1 v' (l ++ [(p : Int)]).length (intCells (l ++ [(p : Int)]))) ∧ Hid (SvRow wr2 w.heap.size (K + 1) (SvAt p m)) ∧ Hid (Below w.heap.size w wr2)) (fun z _ => K + 1 - (intOf z).toNat)
        case atStart => exact ⟨p * p, by rw [HSQ.out], hsqn, HLE.out, HDV.out, O1.out, S1.out, O2.out⟩
        case round =>
          obtain ⟨m, rfl, m1, m2, m3, mo, ms, mb⟩ := hrel
          by_cases hm : m ≤ K
          · obtain ⟨b, hc, _⟩ := svRow_read ms.out (j := m) (by omega)
            have hf := svRow_frozen ms.out m
            obtain ⟨s1, s2⟩ := svRow_store ms.out (Q := SvAt p (m + p)) (m := m) (fun j _ => svAt_step (by omega) m3.out m2.out)
            have hlt := svRow_lt ms.out
            have ho := mo.out.kept s2 (by
              rcases h : v'.ownBlock with _ | g
              · exact .inl rfl
              · right
                intro e
                have h5 := (mo.out.lt g h).1
                have : g = w.heap.size := by simpa using e
                omega)
            have hb' := mb.out.setCell (show w.heap.size ≤ (⟨w.heap.size, m, none⟩ : Addr).block from Nat.le_refl _) (.bool true)
            have HD := Lib.hid (show p ∣ m + p from (Nat.dvd_add_right m3.out).2 (Nat.dvd_refl p))
            have HLE2 := Lib.hid (Nat.le_trans m2.out (Nat.le_add_right m p))
            have S2 := Lib.hid s1
            have O3 := Lib.hid ho
            have B3 := Lib.hid hb'
            clear s1 s2 ho hb' m2 m3 mo ms mb
            go_wp2
            go_roundw
            case rel => exact ⟨m + p, by go_num, by omega, HLE2.out, HD.out, O3.out, S2.out, B3.out⟩
            case measure => simp [intOf]; omega
          · have S2 := Lib.hid (svRow_congr ms.out (fun j hj => svAt_end (j := j) HPB.out (by omega)))
            clear ms
            go_wp2
            go_roundw
            case rel => exact ⟨p + 1, l ++ [(p : Int)], by go_num, by omega, by omega, by simp; omega, E.out, mo, S2.out, mb⟩
            case measure => simp [intOf]; omega
      | false =>
        have hb : b = true := hbp.2 ((sv_self h1).2 hpb)
        subst hb
        have e : prmsI (p + 1 - 1) = l := by
          have := prmsI_no (n := p - 1) (by rw [show p - 1 + 1 = p by omega]; exact hpb)
          rw [show p - 1 + 1 = p by omega, HL.out] at this
          exact this
        have S1 := Lib.hid (svRow_congr HS.out (fun j _ => (sv_skip (j := j) hpb).symm))
        have E := Lib.hid e
        clear e hpb HL hbp
        go_wp2
        go_roundw
        case rel => exact ⟨p + 1, l, by go_num, by omega, by omega, by omega, E.out, HO, S1.out, HB⟩
        case measure => simp [intOf]; omega
    · obtain rfl : p = K + 1 := by omega
      have e := HL.out
      rw [show K + 1 - 1 = K by omega] at e
      have E := Lib.hid e
      clear e HL
      go_wp2
      go_ret2
      exact ⟨_, rfl, by rw [E.out]; exact (intsAt_of_owns HO.out).mono (by omega), HB.out⟩
end Go.Proofs.YtjmldlbiihaefaaDoor
