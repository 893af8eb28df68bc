/- The reference's integers: trim. -/
import Derived.Test.YtjmldlbiihaefaaDoorBigB
import Derived.Maps.AppendAt
namespace Go.Proofs.YtjmldlbiihaefaaDoor
open Go.RowKit HP

/-- digits as values -/
def dl (F : Nat → Nat) (m : Nat) : List Value := (List.range m).map fun i => .int .u32 (F i)
theorem dl_len (F : Nat → Nat) (m : Nat) : (dl F m).length = m := by unfold dl; simp
theorem dl_at {F : Nat → Nat} {m i : Nat} (h : i < m) : (dl F m)[i]? = some (.int .u32 (F i)) := by
  unfold dl; rw [List.getElem?_map, List.getElem?_range h]; rfl
theorem dl_get {F : Nat → Nat} {m i : Nat} {u : Value} (h : (dl F m)[i]? = some u) : i < m ∧ u = .int .u32 (F i) := by
  have hi : i < m := by
    have := (List.getElem?_eq_some_iff.1 h).1
    rwa [dl_len] at this
  rw [dl_at hi] at h
  exact ⟨hi, (Option.some.inj h).symm⟩
theorem dl_one (F : Nat → Nat) (m : Nat) : ∀ u ∈ dl F m, u.oneCell' = true := by
  intro u hu
  obtain ⟨i, _, rfl⟩ := List.mem_map.1 hu
  rfl
theorem u32At_owns {B : Nat} {w : World} {v : Value} {m : Nat} {F : Nat → Nat} {t : TypeId} (h : w.ownsRow B t 1 v m (dl F m)) : U32At w v m F := by
  rcases h.2 with ⟨rfl, h0⟩ | ⟨g, cap, cur, rfl, hg, hb, h1, h2, h3, h4⟩
  · exact .inl ⟨rfl, h0⟩
  · exact .inr ⟨g, cap, rfl, h1, (Array.getElem?_eq_some_iff.1 hb).1, fun i hi => (h.cellAt i (by omega)).trans (dl_at hi)⟩
theorem addr_add0 (g k : Nat) : (⟨g, 0, none⟩ : Addr).add k = ⟨g, k, none⟩ := by
  simp only [Addr.add]
  split
  · next h => simp_all
  · simp

theorem empty_owns (w : World) (t : TypeId) : (w.alloc (.cells #[] t)).ownsRow w.heap.size t 1 (.slice (some ⟨w.heap.size, 0, none⟩) 0 0) 0 [] :=
  ⟨rfl, .inr ⟨w.heap.size, 0, #[], rfl, Nat.le_refl _, heap_alloc_new _ _, Nat.le_refl _, by decide, rfl, rfl⟩⟩

set_option maxHeartbeats 1000000 in
set_option maxRecDepth 100000 in
theorem rtrim_full (v : Value) (n : Nat) (F : Nat → Nat) (w : World) (h : U32At w v n F) (hF : ∀ i, i < n → F i < W32) (hn : n ≤ 1099511627776) :
    Calls Tryd.prog 113 #[v] w fun x w' => ∃ v', x = .returned v' ∧ v' ≠ .slice none 0 0 ∧ NatAt w' v' (valF F n) ∧ Below w.heap.size w w' := by
  obtain ⟨i0, hi, hz0, hz1, hz2⟩ := info_parts infoU32
  rcases h with ⟨rfl, rfl⟩ | ⟨g, cap, rfl, hcap, hg, hc⟩
  · go_enter Tryd.func113, Tryd.ntmps113
    go_wp2
    refine wp_loop_rounds 1 ?_
    rw [rounds_succ]
    go_wp2
    go_ret
    exact ⟨_, rfl, by simp, ⟨0, .inr ⟨w.heap.size, 0, rfl, Nat.le_refl _, by simp, fun i hi => absurd hi (Nat.not_lt_zero _)⟩, len_zero⟩, below_res _ _⟩
  · have HC := Lib.hid hc
    have HF := Lib.hid hF
    clear hc hF
    go_enter Tryd.func113, Tryd.ntmps113
    go_wp2
    go_loop [3] (fun y => ∃ m : Nat, y = .int .i64 m ∧ m ≤ n ∧ Hid (tlen F m = tlen F n)) (fun y => (intOf y).toNat)
    case atStart => exact ⟨n, rfl, Nat.le_refl _, rfl⟩
    case round =>
      obtain ⟨m, rfl, hm, HV⟩ := hrel
      by_cases h0 : m = 0 ∨ F (m - 1) ≠ 0
      · have htm : tlen F m = m := by
          rcases Nat.eq_zero_or_pos m with h | h
          · subst h; rfl
          · obtain ⟨j, rfl⟩ : ∃ j, m = j + 1 := ⟨m - 1, by omega⟩
            have h1 : F j ≠ 0 := by
              rcases h0 with h0 | h0
              · omega
              · simpa using h0
            rw [tlen, if_neg h1]
        have hmt : m = tlen F n := by rw [← HV.out, htm]
        have hval : valF F m = valF F n := by rw [hmt]; exact tlen_val F n
        have hmc : m ≤ cap := by omega
        have hm2 : m ≤ 1099511627776 := by omega
        have hnews : ∀ j u, (dl F m)[j]? = some u → (w.alloc (.cells #[] 87)).cell? ((⟨g, 0, none⟩ : Addr).add j) = some u := fun j u hj => by
          obtain ⟨h1, rfl⟩ := dl_get hj
          rw [addr_add0, World.cell?_alloc_past _ _ _ hg]
          exact HC.out j (by omega)
        have hnewl : (dl F m).length = m * 1 := by rw [dl_len, Nat.mul_one]
        have hone := dl_one F m
        have hown := empty_owns w 87
        have HVAL := Lib.hid hval
        have HNE := Lib.hid hnews
        have HNL := Lib.hid hnewl
        have HON := Lib.hid hone
        have HOW := Lib.hid hown
        have htop := Lib.hid (tlen_top F n)
        rw [← hmt] at htop
        have hpos : m = 0 ∨ 0 < m := by omega
        have hne2 : ∀ j, m = j + 1 → F j ≠ 0 := fun j hj => by
          rcases h0 with h | h
          · omega
          · rw [hj] at h; simpa using h
        clear hval hnews hnewl hone hown h0 htm hmt HV
        rcases hpos with rfl | hpos
        · go_wp2_with (at_builtin; refine wpList_append_own _ rfl _ _ 67 rfl w.heap.size 87 i0 (.int .u32 0) 1 4 Tryd.underlying67 hi hz0 hz1 hz2 rfl (by decide) _ _ _ rfl HOW.out ⟨g, 0, none⟩ 0 cap (dl F 0) rfl HNL.out HNE.out HON.out (by unfold maxLen; omega) (by omega) (by simp) ?_)
          intro v' w1 hown' hgrow hnil
          have hnn : v' ≠ .slice none 0 0 := fun h => hnil h
          clear hnil
          have hres : NatAt w1 v' (valF F n) := by
            rw [← HVAL.out]
            refine natAt_of (u32At_owns (B := w.heap.size) (t := 87) ?_) (fun i hi => HF.out i (by omega)) (.inl rfl)
            simpa using hown'
          have hbel : Below w.heap.size w w1 := (below_res w (.cells #[] 87)).grown hgrow (by simp) (fun k hk => by have h : w.heap.size = k := Option.some.inj hk; omega)
          have HRES := Lib.hid hres
          have HBEL := Lib.hid hbel
          clear hres hbel hown' hgrow
          go_wp2
          go_ret
          exact ⟨_, rfl, hnn, HRES.out, HBEL.out⟩
        · obtain ⟨j, rfl⟩ : ∃ j, m = j + 1 := ⟨m - 1, by omega⟩
          have hcell := HC.out j (by omega)
          have hz' : ((F j : Int) == 0) = false := by rw [beq_eq_false_iff_ne]; have := hne2 j rfl; omega
          clear hne2
          go_wp2_with (at_builtin; refine wpList_append_own _ rfl _ _ 67 rfl w.heap.size 87 i0 (.int .u32 0) 1 4 Tryd.underlying67 hi hz0 hz1 hz2 rfl (by decide) _ _ _ rfl HOW.out ⟨g, 0, none⟩ (j + 1) cap (dl F (j + 1)) rfl HNL.out HNE.out HON.out (by unfold maxLen; omega) (by omega) (by simp) ?_)
          intro v' w1 hown' hgrow hnil
          have hnn : v' ≠ .slice none 0 0 := fun h => hnil h
          clear hnil
          have hres : NatAt w1 v' (valF F n) := by
            rw [← HVAL.out]
            refine natAt_of (u32At_owns (B := w.heap.size) (t := 87) ?_) (fun i hi => HF.out i (by omega)) htop.out
            simpa using hown'
          have hbel : Below w.heap.size w w1 := (below_res w (.cells #[] 87)).grown hgrow (by simp) (fun k hk => by have h : w.heap.size = k := Option.some.inj hk; omega)
          have HRES := Lib.hid hres
          have HBEL := Lib.hid hbel
          clear hres hbel hown' hgrow
          go_wp2
          go_ret
          exact ⟨_, rfl, hnn, HRES.out, HBEL.out⟩
      · obtain ⟨j, rfl⟩ : ∃ j, m = j + 1 := ⟨m - 1, by omega⟩
        have hz : F j = 0 := by
          have : ¬ (F (j + 1 - 1) ≠ 0) := fun h => h0 (.inr h)
          simpa using this
        have hcell := HC.out j (by omega)
        have hz' : ((F j : Int) == 0) = true := by rw [beq_iff_eq]; omega
        have e : tlen F j = tlen F n := by rw [← HV.out, tlen, if_pos hz]
        have E := Lib.hid e
        clear e HV hz h0
        go_wp2
        go_round
        case rel => exact ⟨j, by simp, by omega, E.out⟩
        case measure => simp [intOf]

theorem rtrim_any (v : Value) (n : Nat) (F : Nat → Nat) (w : World) (h : U32At w v n F) (hF : ∀ i, i < n → F i < W32) (hn : n ≤ 1099511627776) :
    Calls Tryd.prog 113 #[v] w fun x w' => ∃ v', x = .returned v' ∧ NatAt w' v' (valF F n) ∧ Below w.heap.size w w' :=
  (rtrim_full v n F w h hF hn).mono fun _ _ ⟨v', h1, _, h2, h3⟩ => ⟨v', h1, h2, h3⟩
end Go.Proofs.YtjmldlbiihaefaaDoor
