/- Lists of integers as slices: the reference's Primes, the comparison. -/
import Derived.Test.YtjmldlbiihaefaaDoorAriJ
import Derived.Test.YtjmldlbiihaefaaDoorRefC
import Derived.Maps.AppendAt
namespace Go.Proofs.YtjmldlbiihaefaaDoor
open Go.RowKit HP

theorem infoInt : (Tryd.prog.info? 3).map (fun i => (i.zero, i.size, i.bytes)) = some (some (.int .i64 0), 1, 8) := by kernel_rfl

/-- the cells of a list of integers -/
def intCells (l : List Int) : List Value := l.map fun x => .int .i64 x
theorem intCells_at {l : List Int} {i : Nat} {x : Int} (h : l[i]? = some x) : (intCells l)[i]? = some (.int .i64 x) := by
  unfold intCells; rw [List.getElem?_map, h]; rfl
/-- a slice value that reads as a list of integers -/
def IntsAt (B : Nat) (w : World) (v : Value) (l : List Int) : Prop :=
  (v = .slice none 0 0 ∧ l = []) ∨ ∃ g cap, v = .slice (some ⟨g, 0, none⟩) l.length cap ∧ l.length ≤ cap ∧ cap ≤ maxLen ∧ B ≤ g ∧ g < w.heap.size ∧ ∀ (i : Nat) (x : Int), l[i]? = some x → w.cell? ⟨g, i, none⟩ = some (.int .i64 x)
theorem intsAt_of_owns {B : Nat} {w : World} {v : Value} {l : List Int} {t : TypeId} (h : w.ownsRow B t 1 v l.length (intCells l)) : IntsAt B w v l := by
  rcases h.2 with ⟨rfl, h0⟩ | ⟨g, cap, cur, rfl, hg, hb, h1, h2, h3, h4⟩
  · exact .inl ⟨rfl, List.length_eq_zero_iff.1 h0⟩
  · refine .inr ⟨g, cap, rfl, h1, h2, hg, ?_, fun i x hi => ?_⟩
    · exact (Array.getElem?_eq_some_iff.1 hb).1
    · have hil : i < l.length := (List.getElem?_eq_some_iff.1 hi).1
      exact (h.cellAt i (by omega)).trans (intCells_at hi)
theorem IntsAt.mono {B C : Nat} {w : World} {v : Value} {l : List Int} (h : IntsAt B w v l) (hC : C ≤ B) : IntsAt C w v l := by
  rcases h with h | ⟨g, cap, h1, h2, h3, h4, h5⟩
  · exact .inl h
  · exact .inr ⟨g, cap, h1, h2, h3, by omega, h5⟩
theorem IntsAt.below {B C : Nat} {w w' : World} {v : Value} {l : List Int} (h : IntsAt B w v l) (hb : Below C w w') (hC : w.heap.size ≤ C) : IntsAt B w' v l := by
  rcases h with h | ⟨g, cap, h1, h2, h3, h4, h5, h6⟩
  · exact .inl h
  · exact .inr ⟨g, cap, h1, h2, h3, h4, by have := hb.size; omega, fun i x hi => (hb.cell (p := ⟨g, i, none⟩) (show g < C by omega)).trans (h6 i x hi)⟩
theorem one_one (k : IntKind) (a : Int) : ∀ u ∈ [Value.int k a], u.oneCell' = true := by
  intro u hu
  simp at hu
  subst hu; rfl
/-- behind an append -/
theorem owns_next1 {B : Nat} {w wr w1 : World} {v v' : Value} {l : List Int} {t : TypeId} {p : Int} {o : Obj} (hown : wr.ownsRow B t 1 v l.length (intCells l)) (hB : w.heap.size ≤ B) (hb : Below w.heap.size w wr)
    (hown' : w1.ownsRow B t 1 v' (l.length + 1) (intCells l ++ [.int .i64 p])) (hg : (wr.alloc o).grownBy w1 v.ownBlock) :
    w1.ownsRow B t 1 v' (l ++ [p]).length (intCells (l ++ [p])) ∧ Below w.heap.size w w1 := by
  refine ⟨by unfold intCells at *; rw [List.map_append, List.length_append]; exact hown', ?_⟩
  exact (hb.alloc (by have := hb.size; omega) o).grown hg (by have := hb.size; simp; omega) (fun k hk => by have := (hown.lt k hk).1; omega)

/-- the primes as integers -/
def prmsI (n : Nat) : List Int := (prms n).map fun (p : Nat) => (p : Int)
theorem prmsI_yes {n : Nat} (h : prmB (n + 1) = true) : prmsI (n + 1) = prmsI n ++ [((n + 1 : Nat) : Int)] := by
  unfold prmsI; rw [prms_yes h, List.map_append]; rfl
theorem prmsI_no {n : Nat} (h : prmB (n + 1) = false) : prmsI (n + 1) = prmsI n := by
  unfold prmsI; rw [prms_no h]
theorem prmsI_one : prmsI 1 = [] := rfl
theorem prmsI_small {n : Nat} (h : n ≤ 1) : prmsI n = [] := by
  have : n = 0 ∨ n = 1 := by omega
  rcases this with rfl | rfl <;> rfl
theorem prmsI_len (n : Nat) : (prmsI n).length ≤ n := by unfold prmsI; rw [List.length_map]; exact prms_len n

set_option maxHeartbeats 1000000 in
set_option maxRecDepth 100000 in
theorem rprimes_any (k : Int) (w : World) (hk : k ≤ 1048576) :
    Calls Tryd.prog 31 #[.int .i64 k] w fun x w' => ∃ v, x = .returned v ∧ IntsAt w.heap.size w' v (prmsI k.toNat) ∧ Below w.heap.size w w' := by
  obtain ⟨i0, hi, hz0, hz1, hz2⟩ := info_parts infoInt
  by_cases h2 : k < 2
  · have e : prmsI k.toNat = [] := prmsI_small (by omega)
    have d1 : decide (2 ≤ k) = false := by simp; omega
    rw [e]
    clear e
    go_enter Tryd.func31, Tryd.ntmps31
    go_wp2
    refine wp_loop_rounds 1 ?_
    rw [rounds_succ]
    go_wp2
    go_ret
    exact ⟨_, rfl, .inl ⟨rfl, rfl⟩, Below.refl _ _⟩
  · obtain ⟨K, rfl⟩ := Int.eq_ofNat_of_zero_le (show 0 ≤ k by omega)
    rw [Int.toNat_natCast]
    have hK2 : 2 ≤ K := by omega
    have hPB : ∀ (p : Nat) w, p ≤ K → Calls Tryd.prog 28 #[.int .i64 p] w fun x w' => x = .returned (.bool (prmB p)) ∧ w = w' := fun p w hp => by
      have := rprime_any (p : Int) w (by omega)
      rwa [Int.toNat_natCast] at this
    have CP := Lib.hid hPB
    clear hPB h2
    go_enter Tryd.func31, Tryd.ntmps31
    go_wp2
    go_loopw [3, 4] (fun v y wr => ∃ (p : Nat) (l : List Int), y = .int .i64 p ∧ 2 ≤ p ∧ p ≤ K + 1 ∧ l.length ≤ p ∧ Hid (prmsI (p - 1) = l) ∧ Hid (wr.ownsRow w.heap.size 3 1 v l.length (intCells l)) ∧ Hid (Below w.heap.size w wr)) (fun _ y _ => K + 3 - (intOf y).toNat)
    case atStart => exact ⟨2, [], rfl, by omega, by omega, by simp, prmsI_one, World.ownsRow_nil _ _ _ _, Below.refl _ _⟩
    case round =>
      obtain ⟨p, l, rfl, h1, h2, h3, HL, HO, HB⟩ := hrel
      have hsz := HB.out.size
      by_cases hp : p ≤ K
      · have c := fun w => CP.out p w hp
        have hlen := prmsI_len p
        cases hpb : prmB p with
        | true =>
          rw [hpb] at c
          have e : prmsI (p + 1 - 1) = l ++ [(p : Int)] := by
            have := prmsI_yes (n := p - 1) (by rw [show p - 1 + 1 = p by omega]; exact hpb)
            rw [show p - 1 + 1 = p by omega, HL.out] at this
            exact this
          have E := Lib.hid e
          have C := Lib.hid c
          clear c e hpb HL
          have hown := HO.out
          go_wp2_with (first | (go_at_call 28; refine (C.out _).mono ?_; rintro x w' ⟨rfl, rfl⟩) | (at_builtin; refine wpList_append_own _ rfl _ _ 46 rfl w.heap.size 3 i0 (.int .i64 0) 1 8 Tryd.underlying46 hi hz0 hz1 hz2 rfl (by decide) _ _ _ rfl (hown.alloc _) ⟨wr.heap.size, 0, none⟩ 1 1 [.int .i64 p] rfl rfl (cell_one_new _ _ _) (one_one _ _) (by unfold maxLen; omega) (by omega) (by simp; omega) ?_))
          intro v' w1 hown' hgrow _
          obtain ⟨o1, o2⟩ := owns_next1 hown (Nat.le_refl _) HB.out hown' hgrow
          have O1 := Lib.hid o1
          have O2 := Lib.hid o2
          clear hown' hgrow hown o1 o2
          go_wp2
          go_roundw
          case rel => exact ⟨p + 1, l ++ [(p : Int)], by go_num, by omega, by omega, by simp; omega, E.out, O1.out, O2.out⟩
          case measure => simp [intOf]; omega
        | false =>
          rw [hpb] at c
          have e : prmsI (p + 1 - 1) = l := by
            have := prmsI_no (n := p - 1) (by rw [show p - 1 + 1 = p by omega]; exact hpb)
            rw [show p - 1 + 1 = p by omega, HL.out] at this
            exact this
          have E := Lib.hid e
          have C := Lib.hid c
          clear c e hpb HL
          go_wp2_with (go_at_call 28; refine (C.out _).mono ?_; rintro x w' ⟨rfl, rfl⟩)
          go_roundw
          case rel => exact ⟨p + 1, l, by go_num, by omega, by omega, by omega, E.out, HO, HB⟩
          case measure => simp [intOf]; omega
      · obtain rfl : p = K + 1 := by omega
        have e := HL.out
        rw [show K + 1 - 1 = K by omega] at e
        have E := Lib.hid e
        clear e HL
        go_wp2
        go_ret
        exact ⟨_, rfl, by rw [E.out]; exact intsAt_of_owns HO.out, HB.out⟩
end Go.Proofs.YtjmldlbiihaefaaDoor
