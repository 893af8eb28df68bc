/- The walk of the reference's Kronecker. -/
import Derived.Test.YtedfcemebdlgfaaDoorRefC
import Derived.Test.YtedfcemebdlgfaaDoorLawRecip
namespace Go.Proofs.YtedfcemebdlgfaaDoor
open Go.RowKit HP

/-- the product over a part of the factorization -/
def kpart (a : Int) (l : List (Nat × Nat)) : Int := prodL (fun p e => kr a p ^ e) l
theorem kpart_next (a : Int) {l : List (Nat × Nat)} {i p e : Nat} (h : l[i]? = some (p, e)) : kpart a (l.take (i + 1)) = kpart a (l.take i) * kr a p ^ e := by
  obtain ⟨hi, he⟩ := List.getElem?_eq_some_iff.1 h
  unfold kpart
  rw [List.take_succ_eq_append_getElem hi, he, prodL_append]
  simp [prodL]
theorem kpart_all (a : Int) {M : Nat} (hM : 0 < M) : kpart a (facs M) = jac a M := (ext_facs _ M hM).symm
theorem leg_yes {a : Int} {p : Nat} (h : a ^ ((p - 1) / 2) % (p : Int) = (p : Int) - 1) : leg a p = -1 := by unfold leg; rw [if_pos h]
theorem leg_no {a : Int} {p : Nat} (h : ¬ a ^ ((p - 1) / 2) % (p : Int) = (p : Int) - 1) : leg a p = a ^ ((p - 1) / 2) % (p : Int) := by unfold leg; rw [if_neg h]

theorem rkro_zero (a : Int) (w : World) : Calls Tryd.prog 50 #[.int .i64 a, .int .i64 0] w fun e w' => e = .returned (.int .i64 (kro a 0)) ∧ Below w.heap.size w w' := by
  by_cases h : a = 1 ∨ a = -1
  · have e : kro a 0 = 1 := by unfold kro; rw [if_pos rfl, if_pos h]
    rw [e]
    clear e
    rcases h with rfl | rfl
    · go_enter Tryd.func50, Tryd.ntmps50
      go_wp2
      go_ret
      exact ⟨rfl, Below.refl _ _⟩
    · go_enter Tryd.func50, Tryd.ntmps50
      go_wp2
      go_ret
      exact ⟨rfl, Below.refl _ _⟩
  · have e : kro a 0 = 0 := by unfold kro; rw [if_pos rfl, if_neg h]
    rw [e]
    have h1 : (a == 1) = false := beq_eq_false_iff_ne.2 fun x => h (.inl x)
    have h2 : (a == -1) = false := beq_eq_false_iff_ne.2 fun x => h (.inr x)
    clear e h
    go_enter Tryd.func50, Tryd.ntmps50
    go_wp2
    go_ret
    exact ⟨rfl, Below.refl _ _⟩

theorem tri_of_bd {x : Int} (h1 : -1 ≤ x) (h2 : x ≤ 1) : Tri x := by unfold Tri; omega
theorem o_next {sg o S : Int} {a : Int} {l : List (Nat × Nat)} {i p e : Nat} (h : l[i]? = some (p, e)) (ho : o = sg * kpart a (l.take i)) (hS : S = kr a p) : o * S ^ e = sg * kpart a (l.take (i + 1)) := by
  rw [kpart_next a h, ho, hS]; grind

set_option maxHeartbeats 4000000 in
set_option maxRecDepth 100000 in
theorem rkro_ne (a n sg : Int) (M : Nat) (w : World) (_ : -9223372036854775808 ≤ a) (_ : a ≤ 9223372036854775807) (hM0 : 0 < M) (hM : M ≤ 2147483647)
    (hs : (n = M ∧ sg = 1) ∨ (n = -(M : Int) ∧ 0 ≤ a ∧ sg = 1) ∨ (n = -(M : Int) ∧ a < 0 ∧ sg = -1)) :
    Calls Tryd.prog 50 #[.int .i64 a, .int .i64 n] w fun e w' => e = .returned (.int .i64 (sg * jac a M)) ∧ Below w.heap.size w w' := by
  have cf := fun w => rfactor_any M w hM0 (by omega)
  have hka := kpart_all a hM0
  have hpr : ∀ x ∈ facs M, Prm x.1 := fun x hx => (facs_mem hM0 x hx).1
  have hbd : ∀ p e, (p, e) ∈ facs M → 2 ≤ p ∧ p ≤ M ∧ e ≤ M := fun p e hx => by
    obtain ⟨_, b, c, d, f, _⟩ := facs_bounds hM0 hx
    exact ⟨b, d, f⟩
  have hfl := facs_len hM0
  generalize facs M = l at *
  have CF := Lib.hid cf
  have HPR := Lib.hid hpr
  have HBD := Lib.hid hbd
  rw [← hka]
  clear cf hpr hbd hka
  rcases hs with ⟨rfl, rfl⟩ | ⟨rfl, ha, rfl⟩ | ⟨rfl, ha, rfl⟩
  · go_enter Tryd.func50, Tryd.ntmps50
    go_wp2_with (go_at_call 74; refine (CF.out _).mono ?_; rintro x w1 ⟨v, rfl, hpp, hb1⟩)
    have HB1 := Lib.hid hb1
    clear hb1
    rcases hpp with ⟨rfl, rfl⟩ | ⟨g, cap, rfl, hg1, hg2, hcells⟩
    · go_wp2
      refine wp_loop_rounds 1 ?_
      rw [rounds_succ]
      go_wp2
      go_ret
      exact ⟨ret_int (by simp [kpart, prodL]), HB1.out⟩
    · have HCELLS := Lib.hid hcells
      clear hcells
      go_wp2
      go_loopw [5, 7] (fun s t wr => ∃ (i k : Nat) (o : Int), t = .int .i64 i ∧ s = .int .i64 o ∧ i ≤ l.length ∧ -1 ≤ o ∧ o ≤ 1 ∧ Hid (o = 1 * kpart a (l.take i)) ∧ wr = w1.drewN k) (fun _ t _ => l.length - (intOf t).toNat)
      case atStart => exact ⟨0, 0, 1, rfl, rfl, Nat.zero_le _, by omega, by omega, by rw [Hid]; simp [kpart, prodL], rfl⟩
      case round =>
        obtain ⟨i, k, o, rfl, rfl, h1, h3, h4, h5, rfl⟩ := hrel
        by_cases hi : i < l.length
        · obtain ⟨p, e, hl⟩ : ∃ p e, l[i]? = some (p, e) := ⟨(l[i]'hi).1, (l[i]'hi).2, by rw [List.getElem?_eq_getElem hi]⟩
          obtain ⟨c1, c2⟩ := HCELLS.out i p e hl
          have hmem : (p, e) ∈ l := List.mem_of_getElem? hl
          obtain ⟨p1, p2, p3⟩ := HBD.out p e hmem
          have hprm := HPR.out _ hmem
          have HL := Lib.hid hl
          have hkt := kr_tri hprm a
          clear hl hmem
          by_cases hp2 : p = 2
          · obtain rfl := hp2
            have hS : two a = kr a 2 := rfl
            have hT := two_tri a
            generalize hSS : two a = S at *
            have HST := Lib.hid hT
            have HS := Lib.hid hS
            have HSS := Lib.hid hSS
            clear hT hS hSS hkt hprm
            go_wp2_with (go_at_call 75; refine (rtwo_any a _).mono ?_; rintro x w' ⟨rfl, rfl⟩; rw [HSS.out])
            go_loop [5, 10] (fun s t => ∃ (j : Nat) (o' : Int), t = .int .i64 j ∧ s = .int .i64 o' ∧ j ≤ e ∧ -1 ≤ o' ∧ o' ≤ 1 ∧ Hid (o' = o * S ^ j)) (fun _ t => e - (intOf t).toNat)
            case atStart => exact ⟨0, o, rfl, rfl, Nat.zero_le _, h3, h4, by rw [Hid]; simp⟩
            case round =>
              obtain ⟨j, o', rfl, rfl, k1, k2, k3, k4⟩ := hrel
              by_cases hj : j < e
              · have hn : o' * S = o * S ^ (j + 1) := by rw [k4.out, Int.pow_succ]; grind
                have hb := tri_bd ((tri_of_bd k2 k3).mul HST.out)
                obtain ⟨hb1, hb2⟩ := hb
                have HN := Lib.hid hn
                clear hn k4
                go_wp2
                go_round
                case rel => exact ⟨j + 1, o' * S, by go_num, rfl, by omega, hb1, hb2, HN.out⟩
                case measure => simp [intOf]; omega
              · obtain rfl : j = e := by omega
                have hn := o_next HL.out h5.out HS.out
                rw [← k4.out] at hn
                have HN := Lib.hid hn
                clear hn k4 h5
                go_wp2
                go_roundw
                case rel => exact ⟨i + 1, k, o', by go_num, rfl, by omega, k2, k3, HN.out, rfl⟩
                case measure => simp [intOf]; omega
          · have hpg : 2 < p := by omega
            have cpw : ∀ w, Calls Tryd.prog 76 #[.int .i64 a, .int .i64 (((p : Int) - 1) / 2), .int .i64 p] w fun e w' => e = .returned (.int .i64 (a ^ ((p - 1) / 2) % p)) ∧ ∃ k, w' = w.drewN k := by
              intro w
              have := rpower_any a ((p - 1) / 2) p w (by omega) (by omega) (by omega)
              have ec : ((((p - 1) / 2 : Nat)) : Int) = ((p : Int) - 1) / 2 := by omega
              rwa [ec] at this
            have hk : kr a p = leg a p := by unfold kr; rw [if_neg hp2]
            have hly := leg_yes (a := a) (p := p)
            have hln := leg_no (a := a) (p := p)
            have hx1 := Int.emod_nonneg (a ^ ((p - 1) / 2)) (show (p : Int) ≠ 0 by omega)
            have hx2 := Int.emod_lt_of_pos (a ^ ((p - 1) / 2)) (show (0 : Int) < p by omega)
            generalize a ^ ((p - 1) / 2) % (p : Int) = X at *
            have CPW := Lib.hid cpw
            clear cpw
            by_cases hX : X = (p : Int) - 1
            · have hS : (-1 : Int) = kr a p := by rw [hk, hly hX]
              obtain ⟨S, hS1⟩ : ∃ S : Int, S = -1 := ⟨-1, rfl⟩
              rw [← hS1] at hS
              have HST := Lib.hid (show Tri S by rw [hS]; exact hkt)
              have HS := Lib.hid hS
              have HS1 := Lib.hid hS1
              have hXb : (X == (p : Int) - 1) = true := by rw [beq_iff_eq]; exact hX
              clear hS hS1 hX hkt hprm hk hly hln
              go_wp2_with (first | (go_at_call 75; refine (rtwo_any a _).mono ?_; rintro x w' ⟨rfl, rfl⟩) | (go_at_call 76; refine (CPW.out _).mono ?_; rintro x w' ⟨rfl, m, rfl⟩))
              rw [← HS1.out]
              go_loop [5, 10] (fun s t => ∃ (j : Nat) (o' : Int), t = .int .i64 j ∧ s = .int .i64 o' ∧ j ≤ e ∧ -1 ≤ o' ∧ o' ≤ 1 ∧ Hid (o' = o * S ^ j)) (fun _ t => e - (intOf t).toNat)
              case atStart => exact ⟨0, o, rfl, rfl, Nat.zero_le _, h3, h4, by rw [Hid]; simp⟩
              case round =>
                obtain ⟨j, o', rfl, rfl, k1, k2, k3, k4⟩ := hrel
                by_cases hj : j < e
                · have hn : o' * S = o * S ^ (j + 1) := by rw [k4.out, Int.pow_succ]; grind
                  have hb := tri_bd ((tri_of_bd k2 k3).mul HST.out)
                  obtain ⟨hb1, hb2⟩ := hb
                  have HN := Lib.hid hn
                  clear hn k4
                  go_wp2
                  go_round
                  case rel => exact ⟨j + 1, o' * S, by go_num, rfl, by omega, hb1, hb2, HN.out⟩
                  case measure => simp [intOf]; omega
                · obtain rfl : j = e := by omega
                  have hn := o_next HL.out h5.out HS.out
                  rw [← k4.out] at hn
                  have HN := Lib.hid hn
                  clear hn k4 h5
                  go_wp2
                  go_roundw
                  case rel => exact ⟨i + 1, k + m, o', by go_num, rfl, by omega, k2, k3, HN.out, rfl⟩
                  case measure => simp [intOf]; omega
            · have hS : X = kr a p := by rw [hk, hln hX]
              have HST := Lib.hid (show Tri X by rw [hS]; exact hkt)
              have HS := Lib.hid hS
              have hXb : (X == (p : Int) - 1) = false := by rw [beq_eq_false_iff_ne]; exact hX
              clear hS hX hkt hprm hk hly hln
              go_wp2_with (first | (go_at_call 75; refine (rtwo_any a _).mono ?_; rintro x w' ⟨rfl, rfl⟩) | (go_at_call 76; refine (CPW.out _).mono ?_; rintro x w' ⟨rfl, m, rfl⟩))
              go_loop [5, 10] (fun s t => ∃ (j : Nat) (o' : Int), t = .int .i64 j ∧ s = .int .i64 o' ∧ j ≤ e ∧ -1 ≤ o' ∧ o' ≤ 1 ∧ Hid (o' = o * X ^ j)) (fun _ t => e - (intOf t).toNat)
              case atStart => exact ⟨0, o, rfl, rfl, Nat.zero_le _, h3, h4, by rw [Hid]; simp⟩
              case round =>
                obtain ⟨j, o', rfl, rfl, k1, k2, k3, k4⟩ := hrel
                by_cases hj : j < e
                · have hn : o' * X = o * X ^ (j + 1) := by rw [k4.out, Int.pow_succ]; grind
                  have hb := tri_bd ((tri_of_bd k2 k3).mul HST.out)
                  obtain ⟨hb1, hb2⟩ := hb
                  have HN := Lib.hid hn
                  clear hn k4
                  go_wp2
                  go_round
                  case rel => exact ⟨j + 1, o' * X, by go_num, rfl, by omega, hb1, hb2, HN.out⟩
                  case measure => simp [intOf]; omega
                · obtain rfl : j = e := by omega
                  have hn := o_next HL.out h5.out HS.out
                  rw [← k4.out] at hn
                  have HN := Lib.hid hn
                  clear hn k4 h5
                  go_wp2
                  go_roundw
                  case rel => exact ⟨i + 1, k + m, o', by go_num, rfl, by omega, k2, k3, HN.out, rfl⟩
                  case measure => simp [intOf]; omega
        · obtain rfl : i = l.length := by omega
          have e := h5.out
          rw [List.take_length] at e
          have E := Lib.hid e
          clear e h5
          go_wp2
          go_ret
          exact ⟨ret_int E.out, by first | exact HB1.out | exact below_drewN HB1.out _⟩
  · go_enter Tryd.func50, Tryd.ntmps50
    go_wp2_with (go_at_call 74; refine (CF.out _).mono ?_; rintro x w1 ⟨v, rfl, hpp, hb1⟩)
    have HB1 := Lib.hid hb1
    clear hb1
    rcases hpp with ⟨rfl, rfl⟩ | ⟨g, cap, rfl, hg1, hg2, hcells⟩
    · go_wp2
      refine wp_loop_rounds 1 ?_
      rw [rounds_succ]
      go_wp2
      go_ret
      exact ⟨ret_int (by simp [kpart, prodL]), HB1.out⟩
    · have HCELLS := Lib.hid hcells
      clear hcells
      go_wp2
      go_loopw [5, 7] (fun s t wr => ∃ (i k : Nat) (o : Int), t = .int .i64 i ∧ s = .int .i64 o ∧ i ≤ l.length ∧ -1 ≤ o ∧ o ≤ 1 ∧ Hid (o = 1 * kpart a (l.take i)) ∧ wr = w1.drewN k) (fun _ t _ => l.length - (intOf t).toNat)
      case atStart => exact ⟨0, 0, 1, rfl, rfl, Nat.zero_le _, by omega, by omega, by rw [Hid]; simp [kpart, prodL], rfl⟩
      case round =>
        obtain ⟨i, k, o, rfl, rfl, h1, h3, h4, h5, rfl⟩ := hrel
        by_cases hi : i < l.length
        · obtain ⟨p, e, hl⟩ : ∃ p e, l[i]? = some (p, e) := ⟨(l[i]'hi).1, (l[i]'hi).2, by rw [List.getElem?_eq_getElem hi]⟩
          obtain ⟨c1, c2⟩ := HCELLS.out i p e hl
          have hmem : (p, e) ∈ l := List.mem_of_getElem? hl
          obtain ⟨p1, p2, p3⟩ := HBD.out p e hmem
          have hprm := HPR.out _ hmem
          have HL := Lib.hid hl
          have hkt := kr_tri hprm a
          clear hl hmem
          by_cases hp2 : p = 2
          · obtain rfl := hp2
            have hS : two a = kr a 2 := rfl
            have hT := two_tri a
            generalize hSS : two a = S at *
            have HST := Lib.hid hT
            have HS := Lib.hid hS
            have HSS := Lib.hid hSS
            clear hT hS hSS hkt hprm
            go_wp2_with (go_at_call 75; refine (rtwo_any a _).mono ?_; rintro x w' ⟨rfl, rfl⟩; rw [HSS.out])
            go_loop [5, 10] (fun s t => ∃ (j : Nat) (o' : Int), t = .int .i64 j ∧ s = .int .i64 o' ∧ j ≤ e ∧ -1 ≤ o' ∧ o' ≤ 1 ∧ Hid (o' = o * S ^ j)) (fun _ t => e - (intOf t).toNat)
            case atStart => exact ⟨0, o, rfl, rfl, Nat.zero_le _, h3, h4, by rw [Hid]; simp⟩
            case round =>
              obtain ⟨j, o', rfl, rfl, k1, k2, k3, k4⟩ := hrel
              by_cases hj : j < e
              · have hn : o' * S = o * S ^ (j + 1) := by rw [k4.out, Int.pow_succ]; grind
                have hb := tri_bd ((tri_of_bd k2 k3).mul HST.out)
                obtain ⟨hb1, hb2⟩ := hb
                have HN := Lib.hid hn
                clear hn k4
                go_wp2
                go_round
                case rel => exact ⟨j + 1, o' * S, by go_num, rfl, by omega, hb1, hb2, HN.out⟩
                case measure => simp [intOf]; omega
              · obtain rfl : j = e := by omega
                have hn := o_next HL.out h5.out HS.out
                rw [← k4.out] at hn
                have HN := Lib.hid hn
                clear hn k4 h5
                go_wp2
                go_roundw
                case rel => exact ⟨i + 1, k, o', by go_num, rfl, by omega, k2, k3, HN.out, rfl⟩
                case measure => simp [intOf]; omega
          · have hpg : 2 < p := by omega
            have cpw : ∀ w, Calls Tryd.prog 76 #[.int .i64 a, .int .i64 (((p : Int) - 1) / 2), .int .i64 p] w fun e w' => e = .returned (.int .i64 (a ^ ((p - 1) / 2) % p)) ∧ ∃ k, w' = w.drewN k := by
              intro w
              have := rpower_any a ((p - 1) / 2) p w (by omega) (by omega) (by omega)
              have ec : ((((p - 1) / 2 : Nat)) : Int) = ((p : Int) - 1) / 2 := by omega
              rwa [ec] at this
            have hk : kr a p = leg a p := by unfold kr; rw [if_neg hp2]
            have hly := leg_yes (a := a) (p := p)
            have hln := leg_no (a := a) (p := p)
            have hx1 := Int.emod_nonneg (a ^ ((p - 1) / 2)) (show (p : Int) ≠ 0 by omega)
            have hx2 := Int.emod_lt_of_pos (a ^ ((p - 1) / 2)) (show (0 : Int) < p by omega)
            generalize a ^ ((p - 1) / 2) % (p : Int) = X at *
            have CPW := Lib.hid cpw
            clear cpw
            by_cases hX : X = (p : Int) - 1
            · have hS : (-1 : Int) = kr a p := by rw [hk, hly hX]
              obtain ⟨S, hS1⟩ : ∃ S : Int, S = -1 := ⟨-1, rfl⟩
              rw [← hS1] at hS
              have HST := Lib.hid (show Tri S by rw [hS]; exact hkt)
              have HS := Lib.hid hS
              have HS1 := Lib.hid hS1
              have hXb : (X == (p : Int) - 1) = true := by rw [beq_iff_eq]; exact hX
              clear hS hS1 hX hkt hprm hk hly hln
              go_wp2_with (first | (go_at_call 75; refine (rtwo_any a _).mono ?_; rintro x w' ⟨rfl, rfl⟩) | (go_at_call 76; refine (CPW.out _).mono ?_; rintro x w' ⟨rfl, m, rfl⟩))
              rw [← HS1.out]
              go_loop [5, 10] (fun s t => ∃ (j : Nat) (o' : Int), t = .int .i64 j ∧ s = .int .i64 o' ∧ j ≤ e ∧ -1 ≤ o' ∧ o' ≤ 1 ∧ Hid (o' = o * S ^ j)) (fun _ t => e - (intOf t).toNat)
              case atStart => exact ⟨0, o, rfl, rfl, Nat.zero_le _, h3, h4, by rw [Hid]; simp⟩
              case round =>
                obtain ⟨j, o', rfl, rfl, k1, k2, k3, k4⟩ := hrel
                by_cases hj : j < e
                · have hn : o' * S = o * S ^ (j + 1) := by rw [k4.out, Int.pow_succ]; grind
                  have hb := tri_bd ((tri_of_bd k2 k3).mul HST.out)
                  obtain ⟨hb1, hb2⟩ := hb
                  have HN := Lib.hid hn
                  clear hn k4
                  go_wp2
                  go_round
                  case rel => exact ⟨j + 1, o' * S, by go_num, rfl, by omega, hb1, hb2, HN.out⟩
                  case measure => simp [intOf]; omega
                · obtain rfl : j = e := by omega
                  have hn := o_next HL.out h5.out HS.out
                  rw [← k4.out] at hn
                  have HN := Lib.hid hn
                  clear hn k4 h5
                  go_wp2
                  go_roundw
                  case rel => exact ⟨i + 1, k + m, o', by go_num, rfl, by omega, k2, k3, HN.out, rfl⟩
                  case measure => simp [intOf]; omega
            · have hS : X = kr a p := by rw [hk, hln hX]
              have HST := Lib.hid (show Tri X by rw [hS]; exact hkt)
              have HS := Lib.hid hS
              have hXb : (X == (p : Int) - 1) = false := by rw [beq_eq_false_iff_ne]; exact hX
              clear hS hX hkt hprm hk hly hln
              go_wp2_with (first | (go_at_call 75; refine (rtwo_any a _).mono ?_; rintro x w' ⟨rfl, rfl⟩) | (go_at_call 76; refine (CPW.out _).mono ?_; rintro x w' ⟨rfl, m, rfl⟩))
              go_loop [5, 10] (fun s t => ∃ (j : Nat) (o' : Int), t = .int .i64 j ∧ s = .int .i64 o' ∧ j ≤ e ∧ -1 ≤ o' ∧ o' ≤ 1 ∧ Hid (o' = o * X ^ j)) (fun _ t => e - (intOf t).toNat)
              case atStart => exact ⟨0, o, rfl, rfl, Nat.zero_le _, h3, h4, by rw [Hid]; simp⟩
              case round =>
                obtain ⟨j, o', rfl, rfl, k1, k2, k3, k4⟩ := hrel
                by_cases hj : j < e
                · have hn : o' * X = o * X ^ (j + 1) := by rw [k4.out, Int.pow_succ]; grind
                  have hb := tri_bd ((tri_of_bd k2 k3).mul HST.out)
                  obtain ⟨hb1, hb2⟩ := hb
                  have HN := Lib.hid hn
                  clear hn k4
                  go_wp2
                  go_round
                  case rel => exact ⟨j + 1, o' * X, by go_num, rfl, by omega, hb1, hb2, HN.out⟩
                  case measure => simp [intOf]; omega
                · obtain rfl : j = e := by omega
                  have hn := o_next HL.out h5.out HS.out
                  rw [← k4.out] at hn
                  have HN := Lib.hid hn
                  clear hn k4 h5
                  go_wp2
                  go_roundw
                  case rel => exact ⟨i + 1, k + m, o', by go_num, rfl, by omega, k2, k3, HN.out, rfl⟩
                  case measure => simp [intOf]; omega
        · obtain rfl : i = l.length := by omega
          have e := h5.out
          rw [List.take_length] at e
          have E := Lib.hid e
          clear e h5
          go_wp2
          go_ret
          exact ⟨ret_int E.out, by first | exact HB1.out | exact below_drewN HB1.out _⟩
  · go_enter Tryd.func50, Tryd.ntmps50
    go_wp2_with (go_at_call 74; refine (CF.out _).mono ?_; rintro x w1 ⟨v, rfl, hpp, hb1⟩)
    have HB1 := Lib.hid hb1
    clear hb1
    rcases hpp with ⟨rfl, rfl⟩ | ⟨g, cap, rfl, hg1, hg2, hcells⟩
    · go_wp2
      refine wp_loop_rounds 1 ?_
      rw [rounds_succ]
      go_wp2
      go_ret
      exact ⟨ret_int (by simp [kpart, prodL]), HB1.out⟩
    · have HCELLS := Lib.hid hcells
      clear hcells
      go_wp2
      go_loopw [5, 7] (fun s t wr => ∃ (i k : Nat) (o : Int), t = .int .i64 i ∧ s = .int .i64 o ∧ i ≤ l.length ∧ -1 ≤ o ∧ o ≤ 1 ∧ Hid (o = (-1) * kpart a (l.take i)) ∧ wr = w1.drewN k) (fun _ t _ => l.length - (intOf t).toNat)
      case atStart => exact ⟨0, 0, (-1), rfl, rfl, Nat.zero_le _, by omega, by omega, by rw [Hid]; simp [kpart, prodL], rfl⟩
      case round =>
        obtain ⟨i, k, o, rfl, rfl, h1, h3, h4, h5, rfl⟩ := hrel
        by_cases hi : i < l.length
        · obtain ⟨p, e, hl⟩ : ∃ p e, l[i]? = some (p, e) := ⟨(l[i]'hi).1, (l[i]'hi).2, by rw [List.getElem?_eq_getElem hi]⟩
          obtain ⟨c1, c2⟩ := HCELLS.out i p e hl
          have hmem : (p, e) ∈ l := List.mem_of_getElem? hl
          obtain ⟨p1, p2, p3⟩ := HBD.out p e hmem
          have hprm := HPR.out _ hmem
          have HL := Lib.hid hl
          have hkt := kr_tri hprm a
          clear hl hmem
          by_cases hp2 : p = 2
          · obtain rfl := hp2
            have hS : two a = kr a 2 := rfl
            have hT := two_tri a
            generalize hSS : two a = S at *
            have HST := Lib.hid hT
            have HS := Lib.hid hS
            have HSS := Lib.hid hSS
            clear hT hS hSS hkt hprm
            go_wp2_with (go_at_call 75; refine (rtwo_any a _).mono ?_; rintro x w' ⟨rfl, rfl⟩; rw [HSS.out])
            go_loop [5, 10] (fun s t => ∃ (j : Nat) (o' : Int), t = .int .i64 j ∧ s = .int .i64 o' ∧ j ≤ e ∧ -1 ≤ o' ∧ o' ≤ 1 ∧ Hid (o' = o * S ^ j)) (fun _ t => e - (intOf t).toNat)
            case atStart => exact ⟨0, o, rfl, rfl, Nat.zero_le _, h3, h4, by rw [Hid]; simp⟩
            case round =>
              obtain ⟨j, o', rfl, rfl, k1, k2, k3, k4⟩ := hrel
              by_cases hj : j < e
              · have hn : o' * S = o * S ^ (j + 1) := by rw [k4.out, Int.pow_succ]; grind
                have hb := tri_bd ((tri_of_bd k2 k3).mul HST.out)
                obtain ⟨hb1, hb2⟩ := hb
                have HN := Lib.hid hn
                clear hn k4
                go_wp2
                go_round
                case rel => exact ⟨j + 1, o' * S, by go_num, rfl, by omega, hb1, hb2, HN.out⟩
                case measure => simp [intOf]; omega
              · obtain rfl : j = e := by omega
                have hn := o_next HL.out h5.out HS.out
                rw [← k4.out] at hn
                have HN := Lib.hid hn
                clear hn k4 h5
                go_wp2
                go_roundw
                case rel => exact ⟨i + 1, k, o', by go_num, rfl, by omega, k2, k3, HN.out, rfl⟩
                case measure => simp [intOf]; omega
          · have hpg : 2 < p := by omega
            have cpw : ∀ w, Calls Tryd.prog 76 #[.int .i64 a, .int .i64 (((p : Int) - 1) / 2), .int .i64 p] w fun e w' => e = .returned (.int .i64 (a ^ ((p - 1) / 2) % p)) ∧ ∃ k, w' = w.drewN k := by
              intro w
              have := rpower_any a ((p - 1) / 2) p w (by omega) (by omega) (by omega)
              have ec : ((((p - 1) / 2 : Nat)) : Int) = ((p : Int) - 1) / 2 := by omega
              rwa [ec] at this
            have hk : kr a p = leg a p := by unfold kr; rw [if_neg hp2]
            have hly := leg_yes (a := a) (p := p)
            have hln := leg_no (a := a) (p := p)
            have hx1 := Int.emod_nonneg (a ^ ((p - 1) / 2)) (show (p : Int) ≠ 0 by omega)
            have hx2 := Int.emod_lt_of_pos (a ^ ((p - 1) / 2)) (show (0 : Int) < p by omega)
            generalize a ^ ((p - 1) / 2) % (p : Int) = X at *
            have CPW := Lib.hid cpw
            clear cpw
            by_cases hX : X = (p : Int) - 1
            · have hS : (-1 : Int) = kr a p := by rw [hk, hly hX]
              obtain ⟨S, hS1⟩ : ∃ S : Int, S = -1 := ⟨-1, rfl⟩
              rw [← hS1] at hS
              have HST := Lib.hid (show Tri S by rw [hS]; exact hkt)
              have HS := Lib.hid hS
              have HS1 := Lib.hid hS1
              have hXb : (X == (p : Int) - 1) = true := by rw [beq_iff_eq]; exact hX
              clear hS hS1 hX hkt hprm hk hly hln
              go_wp2_with (first | (go_at_call 75; refine (rtwo_any a _).mono ?_; rintro x w' ⟨rfl, rfl⟩) | (go_at_call 76; refine (CPW.out _).mono ?_; rintro x w' ⟨rfl, m, rfl⟩))
              rw [← HS1.out]
              go_loop [5, 10] (fun s t => ∃ (j : Nat) (o' : Int), t = .int .i64 j ∧ s = .int .i64 o' ∧ j ≤ e ∧ -1 ≤ o' ∧ o' ≤ 1 ∧ Hid (o' = o * S ^ j)) (fun _ t => e - (intOf t).toNat)
              case atStart => exact ⟨0, o, rfl, rfl, Nat.zero_le _, h3, h4, by rw [Hid]; simp⟩
              case round =>
                obtain ⟨j, o', rfl, rfl, k1, k2, k3, k4⟩ := hrel
                by_cases hj : j < e
                · have hn : o' * S = o * S ^ (j + 1) := by rw [k4.out, Int.pow_succ]; grind
                  have hb := tri_bd ((tri_of_bd k2 k3).mul HST.out)
                  obtain ⟨hb1, hb2⟩ := hb
                  have HN := Lib.hid hn
                  clear hn k4
                  go_wp2
                  go_round
                  case rel => exact ⟨j + 1, o' * S, by go_num, rfl, by omega, hb1, hb2, HN.out⟩
                  case measure => simp [intOf]; omega
                · obtain rfl : j = e := by omega
                  have hn := o_next HL.out h5.out HS.out
                  rw [← k4.out] at hn
                  have HN := Lib.hid hn
                  clear hn k4 h5
                  go_wp2
                  go_roundw
                  case rel => exact ⟨i + 1, k + m, o', by go_num, rfl, by omega, k2, k3, HN.out, rfl⟩
                  case measure => simp [intOf]; omega
            · have hS : X = kr a p := by rw [hk, hln hX]
              have HST := Lib.hid (show Tri X by rw [hS]; exact hkt)
              have HS := Lib.hid hS
              have hXb : (X == (p : Int) - 1) = false := by rw [beq_eq_false_iff_ne]; exact hX
              clear hS hX hkt hprm hk hly hln
              go_wp2_with (first | (go_at_call 75; refine (rtwo_any a _).mono ?_; rintro x w' ⟨rfl, rfl⟩) | (go_at_call 76; refine (CPW.out _).mono ?_; rintro x w' ⟨rfl, m, rfl⟩))
              go_loop [5, 10] (fun s t => ∃ (j : Nat) (o' : Int), t = .int .i64 j ∧ s = .int .i64 o' ∧ j ≤ e ∧ -1 ≤ o' ∧ o' ≤ 1 ∧ Hid (o' = o * X ^ j)) (fun _ t => e - (intOf t).toNat)
              case atStart => exact ⟨0, o, rfl, rfl, Nat.zero_le _, h3, h4, by rw [Hid]; simp⟩
              case round =>
                obtain ⟨j, o', rfl, rfl, k1, k2, k3, k4⟩ := hrel
                by_cases hj : j < e
                · have hn : o' * X = o * X ^ (j + 1) := by rw [k4.out, Int.pow_succ]; grind
                  have hb := tri_bd ((tri_of_bd k2 k3).mul HST.out)
                  obtain ⟨hb1, hb2⟩ := hb
                  have HN := Lib.hid hn
                  clear hn k4
                  go_wp2
                  go_round
                  case rel => exact ⟨j + 1, o' * X, by go_num, rfl, by omega, hb1, hb2, HN.out⟩
                  case measure => simp [intOf]; omega
                · obtain rfl : j = e := by omega
                  have hn := o_next HL.out h5.out HS.out
                  rw [← k4.out] at hn
                  have HN := Lib.hid hn
                  clear hn k4 h5
                  go_wp2
                  go_roundw
                  case rel => exact ⟨i + 1, k + m, o', by go_num, rfl, by omega, k2, k3, HN.out, rfl⟩
                  case measure => simp [intOf]; omega
        · obtain rfl : i = l.length := by omega
          have e := h5.out
          rw [List.take_length] at e
          have E := Lib.hid e
          clear e h5
          go_wp2
          go_ret
          exact ⟨ret_int E.out, by first | exact HB1.out | exact below_drewN HB1.out _⟩
end Go.Proofs.YtedfcemebdlgfaaDoor
