/- The reference's Divisors. -/
import Derived.Test.YtjmldlbiihaefaaDoorAriK
import Derived.Test.YtjmldlbiihaefaaDoorNumA
namespace Go.Proofs.YtjmldlbiihaefaaDoor
open Go.RowKit HP

/-- naturals as integers -/
def intL (l : List Nat) : List Int := l.map fun (x : Nat) => (x : Int)
theorem intL_append (l m : List Nat) : intL (l ++ m) = intL l ++ intL m := List.map_append
theorem intL_one (x : Nat) : intL [x] = [(x : Int)] := rfl
theorem intL_len (l : List Nat) : (intL l).length = l.length := List.length_map _
theorem intL_at {l : List Nat} {i x : Nat} (h : l[i]? = some x) : (intL l)[i]? = some (x : Int) := by unfold intL; rw [List.getElem?_map, h]; rfl

/-- two rows of the call's own that do not share a block -/
def Apart (v u : Value) : Prop := v.ownBlock = none ∨ v.ownBlock ≠ u.ownBlock
theorem Apart.symm {v u : Value} (h : Apart v u) : Apart u v := by
  rcases h with h | h
  · by_cases h2 : u.ownBlock = none
    · exact .inl h2
    · exact .inr (by rw [h]; exact h2)
  · exact .inr fun e => h e.symm
theorem apart_kept {B : Nat} {wr w1 : World} {u v v' : Value} {l : List Int} {t : TypeId} {n : Nat} {o : Obj} (hu : wr.ownsRow B t 1 u n (intCells l)) (hd : Apart u v) (hg : (wr.alloc o).grownBy w1 v.ownBlock) (hat : v'.ownBlock = v.ownBlock ∨ v'.ownBlock = some (wr.heap.size + 1)) :
    w1.ownsRow B t 1 u n (intCells l) ∧ Apart u v' := by
  refine ⟨(hu.alloc o).kept hg hd, ?_⟩
  rcases hd with hd | hd
  · exact .inl hd
  · by_cases h0 : u.ownBlock = none
    · exact .inl h0
    · refine .inr ?_
      rcases hat with hat | hat
      · rw [hat]; exact hd
      · rw [hat]
        intro e
        have := (hu.lt _ e).2
        omega

set_option maxHeartbeats 2000000 in
set_option maxRecDepth 100000 in
theorem rdivisors_any (N : Nat) (w : World) (hN0 : 1 ≤ N) (hN : N ≤ 2147483647) :
    Calls Tryd.prog 45 #[.int .i64 N] w fun x w' => ∃ v, x = .returned v ∧ IntsAt w.heap.size w' v (intL (dvs N)) ∧ Below w.heap.size w w' := by
  obtain ⟨i0, hi, hz0, hz1, hz2⟩ := info_parts infoInt
  go_enter Tryd.func45, Tryd.ntmps45
  go_wp2
  go_loopw [3, 4, 5] (fun v u y wr => ∃ (d : Nat) (l h : List Int), y = .int .i64 d ∧ 1 ≤ d ∧ d ≤ 46341 ∧ l.length ≤ d ∧ h.length ≤ d ∧ Hid (∀ x, x < d → x * x ≤ N) ∧ Hid (intL (lowD N d) = l) ∧ Hid (intL (higD N d) = h) ∧ Hid (wr.ownsRow w.heap.size 3 1 v l.length (intCells l)) ∧ Hid (wr.ownsRow w.heap.size 3 1 u h.length (intCells h)) ∧ Hid (Apart v u) ∧ Hid (Below w.heap.size w wr)) (fun _ _ y _ => 46341 - (intOf y).toNat)
  case atStart =>
    have hx0 : ∀ x, x < 1 → x * x ≤ N := fun x hx => by
      obtain rfl : x = 0 := by omega
      omega
    exact ⟨1, [], [], rfl, by omega, by omega, by simp, by simp, hx0, by rw [lowD_one]; rfl, by rw [higD_one]; rfl, World.ownsRow_nil _ _ _ _, World.ownsRow_nil _ _ _ _, .inl rfl, Below.refl _ _⟩
  case round =>
    obtain ⟨d, l, h, rfl, h1, h2, hll, hhl, HX, HL, HH, HV, HU, HA, HB⟩ := hrel
    have hsz := HB.out.size
    by_cases hdd : d * d ≤ N
    · have hd2 : d < 46341 := Nat.lt_of_not_le fun h3 => by
        have := Nat.mul_le_mul h3 h3
        omega
      have hdd' : (d : Int) * d ≤ (N : Int) := by exact_mod_cast hdd
      have hpos : 0 ≤ (d : Int) * d := Int.mul_nonneg (by omega) (by omega)
      have hx : ∀ x, x < d + 1 → x * x ≤ N := fun x hx => by
        rcases Nat.lt_or_ge x d with h3 | h3
        · exact HX.out x h3
        · obtain rfl : x = d := by omega
          exact hdd
      have HX1 := Lib.hid hx
      clear hx HX
      by_cases hm : N % d = 0
      · have hdv : isDv N d = true := isDv_iff.2 ⟨by omega, Nat.dvd_of_mod_eq_zero hm⟩
        have hm' : ((N : Int) % d == 0) = true := by rw [beq_iff_eq]; omega
        have el : intL (lowD N (d + 1)) = l ++ [(d : Int)] := by rw [lowD_yes hdv, intL_append, HL.out, intL_one]
        have EL := Lib.hid el
        have hq : (N : Int) / d = ((N / d : Nat) : Int) := by simp
        by_cases hs : d * d < N
        · have hs' : decide ((d : Int) * d < (N : Int)) = true := by rw [decide_eq_true_iff]; exact_mod_cast hs
          have eh : intL (higD N (d + 1)) = h ++ [(N : Int) / d] := by rw [higD_yes hdv hs, intL_append, HH.out, intL_one, hq]
          have EH := Lib.hid eh
          have hqb : (N : Int) / d ≤ 2147483647 := by have := Nat.div_le_self N d; rw [hq]; omega
          have hqb0 : 0 ≤ (N : Int) / d := by rw [hq]; exact Int.natCast_nonneg _
          clear el eh hdv hm hs hdd HL HH hq
          have hown := HV.out
          have hown2 := HU.out
          go_wp2_with (at_builtin; first
            | refine wpList_append_own_at _ rfl _ _ 46 rfl w.heap.size 3 i0 (.int .i64 0) 1 8 Tryd.underlying46 hi hz0 hz1 hz2 rfl (by decide) _ _ _ rfl (hown.alloc _) ⟨wr.heap.size, 0, none⟩ 1 1 [.int .i64 d] rfl rfl (cell_one_new _ _ _) (one_one _ _) (by unfold maxLen; omega) (by omega) (by simp; omega) ?_)
          intro v' w1 hown' hgrow _ hat
          obtain ⟨o1, o2⟩ := owns_next1 hown (Nat.le_refl _) HB.out hown' hgrow
          obtain ⟨o3, o4⟩ := apart_kept hown2 HA.out.symm hgrow hat
          have O1 := Lib.hid o1
          have O2 := Lib.hid o2
          have O4 := Lib.hid o4
          have hsz1 := o2.size
          clear hown' hgrow hown o1 o2 o4 hat hown2
          go_wp2_with (at_builtin; first
            | refine wpList_append_own_at _ rfl _ _ 46 rfl w.heap.size 3 i0 (.int .i64 0) 1 8 Tryd.underlying46 hi hz0 hz1 hz2 rfl (by decide) _ _ _ rfl (o3.alloc _) ⟨w1.heap.size, 0, none⟩ 1 1 [.int .i64 ((N : Int) / d)] rfl rfl (cell_one_new _ _ _) (one_one _ _) (by unfold maxLen; omega) (by omega) (by simp; omega) ?_)
          intro u' w2 hown' hgrow _ hat
          obtain ⟨p1, p2⟩ := owns_next1 o3 (Nat.le_refl _) O2.out hown' hgrow
          obtain ⟨p3, p4⟩ := apart_kept O1.out O4.out.symm hgrow hat
          have P1 := Lib.hid p1
          have P2 := Lib.hid p2
          have P3 := Lib.hid p3
          have P4 := Lib.hid p4
          clear hown' hgrow o3 p1 p2 p3 p4 hat
          go_wp2
          go_roundw
          case rel => exact ⟨d + 1, l ++ [(d : Int)], h ++ [(N : Int) / d], by go_num, by omega, by omega, by simp; omega, by simp; omega, HX1.out, EL.out, EH.out, P3.out, P1.out, P4.out, P2.out⟩
          case measure => simp [intOf]; omega
        · have hs' : decide ((d : Int) * d < (N : Int)) = false := by
            rw [decide_eq_false_iff_not]
            intro h3
            exact hs (by exact_mod_cast h3)
          have eh : intL (higD N (d + 1)) = h := by rw [higD_eq hdv hs, HH.out]
          have EH := Lib.hid eh
          clear el eh hdv hm hs hdd HL HH hq
          have hown := HV.out
          have hown2 := HU.out
          go_wp2_with (at_builtin; first
            | refine wpList_append_own_at _ rfl _ _ 46 rfl w.heap.size 3 i0 (.int .i64 0) 1 8 Tryd.underlying46 hi hz0 hz1 hz2 rfl (by decide) _ _ _ rfl (hown.alloc _) ⟨wr.heap.size, 0, none⟩ 1 1 [.int .i64 d] rfl rfl (cell_one_new _ _ _) (one_one _ _) (by unfold maxLen; omega) (by omega) (by simp; omega) ?_)
          intro v' w1 hown' hgrow _ hat
          obtain ⟨o1, o2⟩ := owns_next1 hown (Nat.le_refl _) HB.out hown' hgrow
          obtain ⟨o3, o4⟩ := apart_kept hown2 HA.out.symm hgrow hat
          have O1 := Lib.hid o1
          have O2 := Lib.hid o2
          have O3 := Lib.hid o3
          have O4 := Lib.hid o4.symm
          clear hown' hgrow hown o1 o2 o3 o4 hat hown2
          go_wp2
          go_roundw
          case rel => exact ⟨d + 1, l ++ [(d : Int)], h, by go_num, by omega, by omega, by simp; omega, by omega, HX1.out, EL.out, EH.out, O1.out, O3.out, O4.out, O2.out⟩
          case measure => simp [intOf]; omega
      · have hdv : isDv N d = false := by
          cases hc : isDv N d with
          | false => rfl
          | true => exact absurd (Nat.mod_eq_zero_of_dvd (isDv_iff.1 hc).2) hm
        have hm' : ((N : Int) % d == 0) = false := by rw [beq_eq_false_iff_ne]; omega
        have el : intL (lowD N (d + 1)) = l := by rw [lowD_no hdv, HL.out]
        have eh : intL (higD N (d + 1)) = h := by rw [higD_no hdv, HH.out]
        have EL := Lib.hid el
        have EH := Lib.hid eh
        clear el eh hdv hm hdd HL HH
        go_wp2
        go_roundw
        case rel => exact ⟨d + 1, l, h, by go_num, by omega, by omega, by omega, by omega, HX1.out, EL.out, EH.out, HV, HU, HA, HB⟩
        case measure => simp [intOf]; omega
    · have hdd' : (N : Int) < (d : Int) * d := by exact_mod_cast Nat.lt_of_not_le hdd
      have hsq : (d : Int) * d ≤ 2147483647 * 2147483647 := Int.mul_le_mul (by omega) (by omega) (by omega) (by omega)
      have fin : l ++ h.reverse = intL (dvs N) := by
        rw [← HL.out, ← HH.out, ← dvs_split hN0 (Nat.lt_of_not_le hdd) HX.out, intL_append]
        unfold intL
        rw [List.map_reverse]
      have FIN := Lib.hid fin
      clear fin HL HH HX hdd
      have hu := HU.out
      rcases hu.2 with ⟨rfl, h0⟩ | ⟨g, cap, cur, rfl, hg, hb, hc1, hc2, hc3, hc4⟩
      · obtain rfl : h = [] := List.length_eq_zero_iff.1 h0
        rw [List.reverse_nil, List.append_nil] at FIN
        clear hu HU
        go_wp2
        refine wp_loop_rounds 1 ?_
        rw [rounds_succ]
        go_wp2
        go_ret
        exact ⟨_, rfl, by rw [← FIN.out]; exact intsAt_of_owns HV.out, HB.out⟩
      · clear hb hc1 hc2 hc3 hc4 hu
        go_wp2
        go_loopw [3, 6] (fun v y wr => ∃ (j : Nat) (l1 : List Int), y = .int .i64 ((j : Int) - 1) ∧ j ≤ h.length ∧ l1.length + j ≤ 92682 ∧ Hid (l1 ++ (h.take j).reverse = intL (dvs N)) ∧ Hid (wr.ownsRow w.heap.size 3 1 v l1.length (intCells l1)) ∧ Hid (wr.ownsRow w.heap.size 3 1 (.slice (some ⟨g, 0, none⟩) h.length cap) h.length (intCells h)) ∧ Hid (Apart v (.slice (some ⟨g, 0, none⟩) h.length cap)) ∧ Hid (Below w.heap.size w wr)) (fun _ y _ => (intOf y + 1).toNat)
        case atStart => exact ⟨h.length, l, rfl, Nat.le_refl _, by omega, by rw [List.take_length]; exact FIN.out, HV, HU, HA, HB⟩
        case round =>
          obtain ⟨j, l1, rfl, hj1, hj2, HF, HV1, HU1, HA1, HB1⟩ := hrel
          have hsz1 := HB1.out.size
          by_cases hj : j = 0
          · subst hj
            rw [List.take_zero, List.reverse_nil, List.append_nil] at HF
            go_wp2
            go_ret
            exact ⟨_, rfl, by rw [← HF.out]; exact intsAt_of_owns HV1.out, HB1.out⟩
          · obtain ⟨i, rfl⟩ : ∃ i, j = i + 1 := ⟨j - 1, by omega⟩
            obtain ⟨x, hx⟩ : ∃ x, h[i]? = some x := ⟨h[i]'(by omega), List.getElem?_eq_getElem (by omega)⟩
            have hcell := (HU1.out.cellAt i (by omega)).trans (intCells_at hx)
            have hF2 : l1 ++ [x] ++ (h.take i).reverse = intL (dvs N) := by
              rw [← HF.out, List.take_add_one, hx, List.reverse_append]
              simp
            have HF2 := Lib.hid hF2
            have e1 : ((i + 1 : Nat) : Int) - 1 = (i : Int) := by omega
            rw [e1]
            clear hF2 HF hx e1
            have hown := HV1.out
            go_wp2_with (at_builtin; first
              | refine wpList_append_own_at _ rfl _ _ 46 rfl w.heap.size 3 i0 (.int .i64 0) 1 8 Tryd.underlying46 hi hz0 hz1 hz2 rfl (by decide) _ _ _ rfl (hown.alloc _) ⟨wr.heap.size, 0, none⟩ 1 1 [.int .i64 x] rfl rfl (cell_one_new _ _ _) (one_one _ _) (by unfold maxLen; omega) (by omega) (by simp; omega) ?_)
            intro v' w1 hown' hgrow _ hat
            obtain ⟨o1, o2⟩ := owns_next1 hown (Nat.le_refl _) HB1.out hown' hgrow
            obtain ⟨o3, o4⟩ := apart_kept HU1.out HA1.out.symm hgrow hat
            have O1 := Lib.hid o1
            have O2 := Lib.hid o2
            have O3 := Lib.hid o3
            have O4 := Lib.hid o4.symm
            clear hown' hgrow hown o1 o2 o3 o4 hat
            go_wp2
            go_roundw
            case rel => exact ⟨i, l1 ++ [x], by go_num, by omega, by simp; omega, HF2.out, O1.out, O3.out, O4.out, O2.out⟩
            case measure => simp [intOf]
end Go.Proofs.YtjmldlbiihaefaaDoor
