/- Walks of bigint: times. -/
import Derived.Test.YtjmldlbiihaefaaDoorBigB
import Derived.Test.YtjmldlbiihaefaaDoorNumA
import Derived.StillTailTactics
namespace Go.Proofs.YtjmldlbiihaefaaDoor
open Go.RowKit HP

theorem sumAt_nil (w : World) : SumAt w w (.slice none 0 0) 0 := ⟨0, fun _ => 0, .inl ⟨rfl, rfl⟩, fun i hi => absurd hi (Nat.not_lt_zero _), rfl, by omega, Below.refl _ _⟩

theorem times_zero (v u : Value) (w : World) (h : (v = .slice none 0 0 ∨ ∃ g cap, v = .slice (some ⟨g, 0, none⟩) 0 cap) ∨ ∃ g n cap, v = .slice (some ⟨g, 0, none⟩) (n + 1) cap ∧ (u = .slice none 0 0 ∨ ∃ g cap, u = .slice (some ⟨g, 0, none⟩) 0 cap)) :
    Calls Tryd.prog 84 #[v, u] w fun x w' => ∃ r, x = .returned r ∧ SumAt w w' r 0 := by
  rcases h with (rfl | ⟨g, cap, rfl⟩) | ⟨g, n, cap, rfl, rfl | ⟨g', cap', rfl⟩⟩
  · go_enter Tryd.func84, Tryd.ntmps84
    go_wp2
    go_ret
    exact ⟨_, rfl, sumAt_nil w⟩
  · go_enter Tryd.func84, Tryd.ntmps84
    go_wp2
    go_ret
    exact ⟨_, rfl, sumAt_nil w⟩
  · have t1 : ((n : Int) + 1 == 0) = false := by rw [beq_eq_false_iff_ne]; omega
    go_enter Tryd.func84, Tryd.ntmps84
    go_wp2
    go_ret
    exact ⟨_, rfl, sumAt_nil w⟩
  · have t1 : ((n : Int) + 1 == 0) = false := by rw [beq_eq_false_iff_ne]; omega
    go_enter Tryd.func84, Tryd.ntmps84
    go_wp2
    go_ret
    exact ⟨_, rfl, sumAt_nil w⟩


theorem times_zero2 (v u : Value) (w : World) (h : (v = .slice none 0 0 ∨ ∃ g cap, v = .slice (some ⟨g, 0, none⟩) 0 cap) ∨ ∃ g n cap, v = .slice (some ⟨g, 0, none⟩) (n + 1) cap ∧ (u = .slice none 0 0 ∨ ∃ g cap, u = .slice (some ⟨g, 0, none⟩) 0 cap)) :
    Calls Tryd.prog 84 #[v, u] w fun x w' => x = .returned (.slice none 0 0) ∧ w' = w := by
  rcases h with (rfl | ⟨g, cap, rfl⟩) | ⟨g, n, cap, rfl, rfl | ⟨g', cap', rfl⟩⟩
  · go_enter Tryd.func84, Tryd.ntmps84
    go_wp2
    go_ret
    exact ⟨rfl, rfl⟩
  · go_enter Tryd.func84, Tryd.ntmps84
    go_wp2
    go_ret
    exact ⟨rfl, rfl⟩
  · have t1 : ((n : Int) + 1 == 0) = false := by rw [beq_eq_false_iff_ne]; omega
    go_enter Tryd.func84, Tryd.ntmps84
    go_wp2
    go_ret
    exact ⟨rfl, rfl⟩
  · have t1 : ((n : Int) + 1 == 0) = false := by rw [beq_eq_false_iff_ne]; omega
    go_enter Tryd.func84, Tryd.ntmps84
    go_wp2
    go_ret
    exact ⟨rfl, rfl⟩


set_option maxHeartbeats 2000000 in
set_option maxRecDepth 100000 in
theorem times_one (g cap g' cap' x y : Nat) (w : World) (hx : x < 4294967296) (hy : y < 4294967296) (hc : w.cell? ⟨g, 0, none⟩ = some (.int .u32 x)) (hd : w.cell? ⟨g', 0, none⟩ = some (.int .u32 y)) :
    Calls Tryd.prog 84 #[.slice (some ⟨g, 0, none⟩) 1 cap, .slice (some ⟨g', 0, none⟩) 1 cap'] w fun e w' => ∃ r, e = .returned r ∧ SumAt w w' r (x * y) := by
  have hb := (mul_digit hx hy (show 0 < 4294967296 by omega) (show 0 < 4294967296 by omega)).1
  have cw := fun w => wide_any (x * y) w (by omega)
  have e1 : ((x * y : Nat) : Int) = (x : Int) * y := by simp
  have b1 : 0 ≤ (x : Int) * y := by rw [← e1]; exact Int.natCast_nonneg _
  have b2 : (x : Int) * y ≤ 18446744065119617025 := by rw [← e1]; exact Int.ofNat_le.2 hb
  have hlt2 : x * y < W32 ^ 2 := by rw [show W32 ^ 2 = 18446744073709551616 by decide]; omega
  rw [e1] at cw
  have CW := Lib.hid cw
  clear cw e1
  go_enter Tryd.func84, Tryd.ntmps84
  go_wp2
  go_still_tail 9, (by kernel_rfl)
  change wpList _ _ _ _ _ w.drew
  have hbd : Below w.heap.size w w.drew := below_drewN (Below.refl _ _) 1
  have hsz : w.drew.heap.size = w.heap.size := rfl
  generalize w.drew = w2 at *
  go_wp2_with (go_at_call 90; refine (CW.out _).mono ?_; rintro _ w' ⟨v, n, rfl, hv, hl, hb'⟩)
  have hs : SumAt w w' v (x * y) := ⟨n, _, hv, fun i _ => dg_lt _ i, valF_dg' hl.1, by have := hl.le hlt2; omega, hbd.trans (hb'.mono (by omega))⟩
  have HS := Lib.hid hs
  clear hs hv hb' hbd
  go_wp2
  go_ret
  exact ⟨_, rfl, HS.out⟩
set_option maxHeartbeats 4000000 in
set_option maxRecDepth 100000 in
theorem times_ss (g n cap g' m cap' : Nat) (F G : Nat → Nat) (w : World) (hg : g < w.heap.size) (hg' : g' < w.heap.size) (hn : 1 ≤ n) (hm : 1 ≤ m) (hnm : ¬ (n = 1 ∧ m = 1)) (hn2 : n ≤ 549755813888) (hm2 : m ≤ 549755813888) (hF : ∀ i, i < n → F i < W32) (hG : ∀ i, i < m → G i < W32)
    (hc : ∀ i, i < n → w.cell? ⟨g, i, none⟩ = some (.int .u32 (F i))) (hd : ∀ i, i < m → w.cell? ⟨g', i, none⟩ = some (.int .u32 (G i))) :
    Calls Tryd.prog 84 #[.slice (some ⟨g, 0, none⟩) n cap, .slice (some ⟨g', 0, none⟩) m cap'] w fun e w' => ∃ r, e = .returned r ∧ SumAt w w' r (valF F n * valF G m) := by
  have t1 : ((n : Int) == 0) = false := by rw [beq_eq_false_iff_ne]; omega
  have t2 : ((m : Int) == 0) = false := by rw [beq_eq_false_iff_ne]; omega
  have hmk := make_u32 (n + m) (by omega)
  have hcast : ((n + m : Nat) : Int) = (n : Int) + m := Int.natCast_add _ _
  rw [hcast] at hmk
  have hrow := dRow_made w (n + m)
  have hst := mulO_start F G m
  have hbel := below_res w (.cells (madeCells #[.int .u32 0] (n + m)) 87)
  have HROW := Lib.hid hrow
  have HST := Lib.hid hst
  have HBEL := Lib.hid hbel
  have HF := Lib.hid hF
  have HG := Lib.hid hG
  have HC := Lib.hid hc
  have HD := Lib.hid hd
  clear hcast hrow hst hbel hF hG hc hd
  by_cases h1 : n = 1
  · have t3 : ((n : Int) == 1) = true := by rw [beq_iff_eq]; omega
    have t4 : ((m : Int) == 1) = false := by rw [beq_eq_false_iff_ne]; omega
    clear hnm h1
    go_enter Tryd.func84, Tryd.ntmps84
    go_wp2
    go_loopw [46] (fun y wr => ∃ (i : Nat) (H : Nat → Nat), y = .int .i64 i ∧ i ≤ n ∧ Hid (DRow wr w.heap.size (n + m) H) ∧ Hid (Below w.heap.size w wr) ∧ Hid (MulO H F G i m)) (fun y _ => n - (intOf y).toNat)
    case atStart => exact ⟨0, fun _ => 0, rfl, Nat.zero_le _, HROW, HBEL, HST.out⟩
    case round =>
      obtain ⟨i, H0, rfl, hi, HR, HB, HM⟩ := hrel
      have hlt := HR.out.lt
      by_cases hin : i < n
      · have hcell := (HB.out.cell (p := ⟨g, i, none⟩) hg).trans (HC.out i hin)
        have hfi := HF.out i hin
        have hfi2 : F i < 4294967296 := hfi
        have HMI := Lib.hid (mulI_start (H0 := H0) (G := G) (x := F i) (i := i) HM.out.1)
        have HFI := Lib.hid hfi
        generalize hx : F i = x at *
        have HX := Lib.hid hx
        clear hx hfi HROW HBEL HST
        go_wp2
        go_loopw [8, 53] (fun y8 y53 wr => ∃ (j c : Nat) (H : Nat → Nat), y53 = .int .i64 j ∧ y8 = .int .u64 c ∧ j ≤ m ∧ c < 4294967296 ∧ Hid (DRow wr w.heap.size (n + m) H) ∧ Hid (Below w.heap.size w wr) ∧ Hid (MulI H H0 G x c i j)) (fun _ y _ => m - (intOf y).toNat)
        case atStart => exact ⟨0, 0, H0, rfl, rfl, Nat.zero_le _, by omega, HR, HB, HMI⟩
        case round =>
          clear HMI hcell hlt
          obtain ⟨j, c, H, rfl, rfl, hj, hcc, HRj, HBj, HMj⟩ := hrel
          have hlt := HRj.out.lt
          by_cases hjm : j < m
          · have hcell2 := (HBj.out.cell (p := ⟨g', j, none⟩) hg').trans (HD.out j hjm)
            have hgj := HG.out j hjm
            have hgj2 : G j < 4294967296 := hgj
            have hoc := World.rowIs.cell HRj.out (show i + j < n + m by omega)
            have hof := World.rowIs.frozen HRj.out (i + j)
            have hh := HMj.out.2.1 (i + j)
            have hh2 : H (i + j) < 4294967296 := hh
            obtain ⟨b1, b2, b3⟩ := mul_digit hfi2 hgj2 hh2 hcc
            have hstep := mulI_step HMj.out HFI.out hgj (t := x * G j + H (i + j) + c) rfl
            have hset := dRow_set HRj.out (i + j) ((x * G j + H (i + j) + c) % 4294967296)
            have hbset := HBj.out.setCell (p := ⟨w.heap.size, i + j, none⟩) (Nat.le_refl _) (.int .u32 (((x * G j + H (i + j) + c) % 4294967296 : Nat) : Int))
            have e1 : (((x * G j + H (i + j) + c) % 4294967296 : Nat) : Int) = ((x : Int) * (G j : Int) + (H (i + j) : Int) + c) % 4294967296 := by
              rw [Int.natCast_emod, Int.natCast_add, Int.natCast_add, Int.natCast_mul]; rfl
            have e2 : (((x * G j + H (i + j) + c) / 4294967296 : Nat) : Int) = ((x : Int) * (G j : Int) + (H (i + j) : Int) + c) / 4294967296 := by
              rw [Int.natCast_ediv, Int.natCast_add, Int.natCast_add, Int.natCast_mul]; rfl
            have q1 : 0 ≤ (x : Int) * (G j : Int) := Int.mul_nonneg (Int.natCast_nonneg _) (Int.natCast_nonneg _)
            have q2 : (x : Int) * (G j : Int) ≤ 18446744065119617025 := by rw [← Int.natCast_mul]; exact Int.ofNat_le.2 b1
            have q3 : (x : Int) * (G j : Int) + (H (i + j) : Int) + c < 18446744073709551616 := by rw [← Int.natCast_mul, ← Int.natCast_add, ← Int.natCast_add]; exact Int.ofNat_lt.2 b2
            rw [e1] at hset hbset
            have HSTEP := Lib.hid hstep
            have HSET := Lib.hid hset
            have HBSET := Lib.hid hbset
            have E2 := Lib.hid e2
            clear hstep hset hbset e1 e2 hgj hh
            go_wp2
            go_roundw
            case rel => exact ⟨j + 1, (x * G j + H (i + j) + c) / 4294967296, _, by go_num, by rw [E2.out], by omega, b3, HSET.out, HBSET.out, HSTEP.out⟩
            case measure => simp [intOf]; omega
          · obtain rfl : j = m := by omega
            have hoc := World.rowIs.cell HRj.out (show i + j < n + j by omega)
            have hof := World.rowIs.frozen HRj.out (i + j)
            have hmo := mulO_step HM.out (by rw [HX.out]; exact HMj.out)
            have hset := dRow_set HRj.out (i + j) c
            have hbset := HBj.out.setCell (p := ⟨w.heap.size, i + j, none⟩) (Nat.le_refl _) (.int .u32 (c : Int))
            have HMO := Lib.hid hmo
            have HSET := Lib.hid hset
            have HBSET := Lib.hid hbset
            clear hmo hset hbset HRj HBj HMj HM HR HB
            go_wp2
            go_roundw
            case rel => exact ⟨i + 1, _, by go_num, by omega, HSET.out, HBSET.out, HMO.out⟩
            case measure => simp [intOf]; omega
      · obtain rfl : i = n := by omega
        have hs : SumAt w _ _ (valF F i * valF G m) := ⟨i + m, _, dRow_at HR.out, fun k _ => HM.out.1 k, HM.out.2, by omega, HB.out⟩
        have HS := Lib.hid hs
        clear hs
        go_wp2
        go_ret
        exact ⟨_, rfl, HS.out⟩
  · have t3 : ((n : Int) == 1) = false := by rw [beq_eq_false_iff_ne]; omega
    clear hnm h1
    go_enter Tryd.func84, Tryd.ntmps84
    go_wp2
    go_loopw [46] (fun y wr => ∃ (i : Nat) (H : Nat → Nat), y = .int .i64 i ∧ i ≤ n ∧ Hid (DRow wr w.heap.size (n + m) H) ∧ Hid (Below w.heap.size w wr) ∧ Hid (MulO H F G i m)) (fun y _ => n - (intOf y).toNat)
    case atStart => exact ⟨0, fun _ => 0, rfl, Nat.zero_le _, HROW, HBEL, HST.out⟩
    case round =>
      obtain ⟨i, H0, rfl, hi, HR, HB, HM⟩ := hrel
      have hlt := HR.out.lt
      by_cases hin : i < n
      · have hcell := (HB.out.cell (p := ⟨g, i, none⟩) hg).trans (HC.out i hin)
        have hfi := HF.out i hin
        have hfi2 : F i < 4294967296 := hfi
        have HMI := Lib.hid (mulI_start (H0 := H0) (G := G) (x := F i) (i := i) HM.out.1)
        have HFI := Lib.hid hfi
        generalize hx : F i = x at *
        have HX := Lib.hid hx
        clear hx hfi HROW HBEL HST
        go_wp2
        go_loopw [8, 53] (fun y8 y53 wr => ∃ (j c : Nat) (H : Nat → Nat), y53 = .int .i64 j ∧ y8 = .int .u64 c ∧ j ≤ m ∧ c < 4294967296 ∧ Hid (DRow wr w.heap.size (n + m) H) ∧ Hid (Below w.heap.size w wr) ∧ Hid (MulI H H0 G x c i j)) (fun _ y _ => m - (intOf y).toNat)
        case atStart => exact ⟨0, 0, H0, rfl, rfl, Nat.zero_le _, by omega, HR, HB, HMI⟩
        case round =>
          clear HMI hcell hlt
          obtain ⟨j, c, H, rfl, rfl, hj, hcc, HRj, HBj, HMj⟩ := hrel
          have hlt := HRj.out.lt
          by_cases hjm : j < m
          · have hcell2 := (HBj.out.cell (p := ⟨g', j, none⟩) hg').trans (HD.out j hjm)
            have hgj := HG.out j hjm
            have hgj2 : G j < 4294967296 := hgj
            have hoc := World.rowIs.cell HRj.out (show i + j < n + m by omega)
            have hof := World.rowIs.frozen HRj.out (i + j)
            have hh := HMj.out.2.1 (i + j)
            have hh2 : H (i + j) < 4294967296 := hh
            obtain ⟨b1, b2, b3⟩ := mul_digit hfi2 hgj2 hh2 hcc
            have hstep := mulI_step HMj.out HFI.out hgj (t := x * G j + H (i + j) + c) rfl
            have hset := dRow_set HRj.out (i + j) ((x * G j + H (i + j) + c) % 4294967296)
            have hbset := HBj.out.setCell (p := ⟨w.heap.size, i + j, none⟩) (Nat.le_refl _) (.int .u32 (((x * G j + H (i + j) + c) % 4294967296 : Nat) : Int))
            have e1 : (((x * G j + H (i + j) + c) % 4294967296 : Nat) : Int) = ((x : Int) * (G j : Int) + (H (i + j) : Int) + c) % 4294967296 := by
              rw [Int.natCast_emod, Int.natCast_add, Int.natCast_add, Int.natCast_mul]; rfl
            have e2 : (((x * G j + H (i + j) + c) / 4294967296 : Nat) : Int) = ((x : Int) * (G j : Int) + (H (i + j) : Int) + c) / 4294967296 := by
              rw [Int.natCast_ediv, Int.natCast_add, Int.natCast_add, Int.natCast_mul]; rfl
            have q1 : 0 ≤ (x : Int) * (G j : Int) := Int.mul_nonneg (Int.natCast_nonneg _) (Int.natCast_nonneg _)
            have q2 : (x : Int) * (G j : Int) ≤ 18446744065119617025 := by rw [← Int.natCast_mul]; exact Int.ofNat_le.2 b1
            have q3 : (x : Int) * (G j : Int) + (H (i + j) : Int) + c < 18446744073709551616 := by rw [← Int.natCast_mul, ← Int.natCast_add, ← Int.natCast_add]; exact Int.ofNat_lt.2 b2
            rw [e1] at hset hbset
            have HSTEP := Lib.hid hstep
            have HSET := Lib.hid hset
            have HBSET := Lib.hid hbset
            have E2 := Lib.hid e2
            clear hstep hset hbset e1 e2 hgj hh
            go_wp2
            go_roundw
            case rel => exact ⟨j + 1, (x * G j + H (i + j) + c) / 4294967296, _, by go_num, by rw [E2.out], by omega, b3, HSET.out, HBSET.out, HSTEP.out⟩
            case measure => simp [intOf]; omega
          · obtain rfl : j = m := by omega
            have hoc := World.rowIs.cell HRj.out (show i + j < n + j by omega)
            have hof := World.rowIs.frozen HRj.out (i + j)
            have hmo := mulO_step HM.out (by rw [HX.out]; exact HMj.out)
            have hset := dRow_set HRj.out (i + j) c
            have hbset := HBj.out.setCell (p := ⟨w.heap.size, i + j, none⟩) (Nat.le_refl _) (.int .u32 (c : Int))
            have HMO := Lib.hid hmo
            have HSET := Lib.hid hset
            have HBSET := Lib.hid hbset
            clear hmo hset hbset HRj HBj HMj HM HR HB
            go_wp2
            go_roundw
            case rel => exact ⟨i + 1, _, by go_num, by omega, HSET.out, HBSET.out, HMO.out⟩
            case measure => simp [intOf]; omega
      · obtain rfl : i = n := by omega
        have hs : SumAt w _ _ (valF F i * valF G m) := ⟨i + m, _, dRow_at HR.out, fun k _ => HM.out.1 k, HM.out.2, by omega, HB.out⟩
        have HS := Lib.hid hs
        clear hs
        go_wp2
        go_ret
        exact ⟨_, rfl, HS.out⟩

/-- the product of two lists of digits -/
theorem times_any (v u : Value) (n m : Nat) (F G : Nat → Nat) (w : World) (h : U32At w v n F) (k : U32At w u m G) (hF : ∀ i, i < n → F i < W32) (hG : ∀ i, i < m → G i < W32) (hn : n ≤ 549755813888) (hm : m ≤ 549755813888) :
    Calls Tryd.prog 84 #[v, u] w fun x w' => ∃ r, x = .returned r ∧ SumAt w w' r (valF F n * valF G m) := by
  by_cases hn0 : n = 0
  · subst hn0
    rw [show valF F 0 = 0 from rfl, Nat.zero_mul]
    refine times_zero v u w (.inl ?_)
    rcases h with ⟨rfl, _⟩ | ⟨g, cap, rfl, _⟩
    · exact .inl rfl
    · exact .inr ⟨g, cap, rfl⟩
  · by_cases hm0 : m = 0
    · subst hm0
      rw [show valF G 0 = 0 from rfl, Nat.mul_zero]
      refine times_zero v u w (.inr ?_)
      rcases h with ⟨rfl, h0⟩ | ⟨g, cap, rfl, _⟩
      · exact absurd h0 hn0
      · refine ⟨g, n - 1, cap, by rw [show n - 1 + 1 = n by omega], ?_⟩
        rcases k with ⟨rfl, _⟩ | ⟨g', cap', rfl, _⟩
        · exact .inl rfl
        · exact .inr ⟨g', cap', rfl⟩
    · rcases h with ⟨rfl, h0⟩ | ⟨g, cap, rfl, _, hg, hc⟩
      · exact absurd h0 hn0
      rcases k with ⟨rfl, h0⟩ | ⟨g', cap', rfl, _, hg', hd⟩
      · exact absurd h0 hm0
      by_cases h1 : n = 1 ∧ m = 1
      · obtain ⟨rfl, rfl⟩ := h1
        have := times_one g cap g' cap' (F 0) (G 0) w (hF 0 (by omega)) (hG 0 (by omega)) (hc 0 (by omega)) (hd 0 (by omega))
        rw [show valF F 1 = F 0 by simp [valF], show valF G 1 = G 0 by simp [valF]]
        exact this
      · exact times_ss g n cap g' m cap' F G w hg hg' (by omega) (by omega) h1 hn hm hF hG hc hd
end Go.Proofs.YtjmldlbiihaefaaDoor
