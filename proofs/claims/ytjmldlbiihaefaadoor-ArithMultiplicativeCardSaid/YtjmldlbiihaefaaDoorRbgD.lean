/- The reference's integers: Mul. -/
import Derived.Test.YtjmldlbiihaefaaDoorRbgC
import Derived.Test.YtjmldlbiihaefaaDoorNumA
import Derived.Test.YtjmldlbiihaefaaDoorBigD
import Derived.Deep.RegionHeld3
import Derived.StillTailTactics
import Derived.BigQuiet
namespace Go.Proofs.YtjmldlbiihaefaaDoor
open Go.RowKit HP

theorem rtrim_nat {v : Value} {x K : Nat} {w : World} (h : NatAt w v x) (hx : x < W32 ^ K) (hK : K ≤ 1000000) :
    Calls Tryd.prog 113 #[v] w fun e w' => ∃ g n cap, e = .returned (.slice (some ⟨g, 0, none⟩) n cap) ∧ NatAt w' (.slice (some ⟨g, 0, none⟩) n cap) x ∧ Below w.heap.size w w' := by
  obtain ⟨n, h1, h2⟩ := h
  have := h2.le hx
  have c := rtrim_full v n (dg x) w h1 (fun i _ => dg_lt x i) (by omega)
  rw [valF_dg' h2.1] at c
  refine c.mono ?_
  rintro e w' ⟨v', rfl, h3, h4, h5⟩
  rcases natAt_shape h4 with h | ⟨g, n, cap, rfl⟩
  · exact absurd h h3
  · exact ⟨g, n, cap, rfl, h4, h5⟩

set_option maxHeartbeats 4000000 in
set_option maxRecDepth 100000 in
theorem rmul_ss (g n cap g' m cap' : Nat) (x y : Nat) (K : Nat) (w : World) (hv : NatAt w (.slice (some ⟨g, 0, none⟩) n cap) x) (hu : NatAt w (.slice (some ⟨g', 0, none⟩) m cap') y) (hx : x < W32 ^ K) (hy : y < W32 ^ K) (hK : K ≤ 1000000) :
    Calls Tryd.prog 98 #[.agg #[.bool false, .slice (some ⟨g, 0, none⟩) n cap], .agg #[.bool false, .slice (some ⟨g', 0, none⟩) m cap']] w fun e w' => ∃ r, e = .returned (.agg #[.bool false, r]) ∧ NatAt w' r (x * y) ∧ Below w.heap.size w w' := by
  have CT1 := Lib.hid (fun W (hb : Below w.heap.size w W) => rtrim_nat (hv.below hb (Nat.le_refl _)) hx hK)
  have CT2 := Lib.hid (fun W (hb : Below w.heap.size w W) => rtrim_nat (hu.below hb (Nat.le_refl _)) hy hK)
  have hbel : Below w.heap.size w (((w.alloc (.cells #[.bool false, .slice (some ⟨g, 0, none⟩) n cap] 69)).alloc (.cells #[.bool false, .slice (some ⟨g', 0, none⟩) m cap'] 69)).alloc (.cells #[.bool false, .slice none 0 0] 69)).drew :=
    below_drewN ((((Below.refl _ _).alloc (Nat.le_refl _) _).alloc (by simp) _).alloc (by simp; omega) _) 1
  have HBEL := Lib.hid hbel
  have HRES := Lib.hid (resC_start3 w (.cells #[.bool false, .slice (some ⟨g, 0, none⟩) n cap] 69) (.cells #[.bool false, .slice (some ⟨g', 0, none⟩) m cap'] 69) 69 _ rfl)
  have HXB := Lib.hid hx
  have HYB := Lib.hid hy
  clear hx hy hv hu hbel
  go_enter Tryd.func98, Tryd.ntmps98
  go_wp2
  go_region_held3 (fun W => W.cell? ⟨w.heap.size, 0, none⟩ = some (.bool false) ∧ W.cell? ⟨w.heap.size, 1, none⟩ = some (.slice (some ⟨g, 0, none⟩) n cap) ∧ W.cell? ⟨w.heap.size + 1, 0, none⟩ = some (.bool false) ∧ W.cell? ⟨w.heap.size + 1, 1, none⟩ = some (.slice (some ⟨g', 0, none⟩) m cap')) (first | assumption | go_keep)
    (first
      | (go_at_call 113; (with_reducible refine (CT1.out _ HBEL.out).mono ?_); rintro _ w1 ⟨g1, n1, c1, rfl, hn1, hb1⟩; have hbox := box_next (A := w.heap.size) (B := w.heap.size + 1) hb1 (by simp [World.drew]; omega) (by simp [World.drew]) (by assumption); have hr1 := Lib.hid (resC_next HRES.out hb1); have hbb1 := Lib.hid (HBEL.out.trans (hb1.mono HBEL.out.size)); have hnn1 := Lib.hid hn1; clear hn1 hb1)
      | (go_at_call 113; (with_reducible refine (CT2.out _ hbb1.out).mono ?_); rintro _ w2 ⟨g2, n2, c2, rfl, hn2, hb2⟩; have hbox := box_next (A := w.heap.size) (B := w.heap.size + 1) hb2 (by have := hr1.out.2.2.2; omega) (by have := hr1.out.2.2.2; omega) (by assumption); have hr2 := Lib.hid (resC_next hr1.out hb2); have hbb2 := Lib.hid (hbb1.out.trans (hb2.mono hbb1.out.size)); have hnn2 := Lib.hid hn2; have hnn3 := Lib.hid (hnn1.out.below hb2 (Nat.le_refl _)); clear hn2 hb2))
  obtain ⟨N, hN1, hN2⟩ := hnn3.out
  obtain ⟨M, hM1, hM2⟩ := hnn2.out
  have hNl := hN2.le HXB.out
  have hMl := hM2.le HYB.out
  rcases hN1 with ⟨h, _⟩ | ⟨_, _, h, _, hg1, hcx⟩
  · cases h
  cases h
  rcases hM1 with ⟨h, _⟩ | ⟨_, _, h, _, hg2, hcy⟩
  · cases h
  cases h
  have hmk := make_u32 (n1 + n2) (by omega)
  have hcast : ((n1 + n2 : Nat) : Int) = (n1 : Int) + n2 := Int.natCast_add _ _
  rw [hcast] at hmk
  have HX := Lib.hid (valF_dg' hN2.1)
  have HY := Lib.hid (valF_dg' hM2.1)
  have HCX := Lib.hid hcx
  have HCY := Lib.hid hcy
  have HROW := Lib.hid (dRow_made w2 (n1 + n2))
  have HMO := Lib.hid (mulO_start (dg x) (dg y) n2)
  have HB0 := Lib.hid (below_res w2 (.cells (madeCells #[.int .u32 0] (n1 + n2)) 87))
  clear hN2 hM2 hcast hcx hcy
  go_wp2
  go_loopw [8] (fun y8 wr => ∃ (i : Nat) (H : Nat → Nat), y8 = .int .i64 i ∧ i ≤ n1 ∧ Hid (DRow wr w2.heap.size (n1 + n2) H) ∧ Hid (Below w2.heap.size w2 wr) ∧ Hid (MulO H (dg x) (dg y) i n2)) (fun y _ => n1 - (intOf y).toNat)
  case atStart => exact ⟨0, fun _ => 0, rfl, Nat.zero_le _, HROW, HB0, HMO.out⟩
  case round =>
    obtain ⟨i, H0, rfl, hi, HR, HB, HM⟩ := hrel
    have hlt := HR.out.lt
    by_cases hin : i < n1
    · have hcell := (HB.out.cell (p := ⟨g1, i, none⟩) hg1).trans (HCX.out i hin)
      have hfi : dg x i < W32 := dg_lt x i
      have hfi2 : dg x i < 4294967296 := hfi
      have HMI := Lib.hid (mulI_start (H0 := H0) (G := dg y) (x := dg x i) (i := i) HM.out.1)
      have HFI := Lib.hid hfi
      have hin' : (i : Int) < (n1 : Int) := by omega
      clear hfi HROW HB0 HMO
      go_wp2
      go_loopw [9, 10] (fun y9 y10 wr => ∃ (j c : Nat) (H : Nat → Nat), y10 = .int .i64 j ∧ y9 = .int .u64 c ∧ j ≤ n2 ∧ c < 4294967296 ∧ Hid (DRow wr w2.heap.size (n1 + n2) H) ∧ Hid (Below w2.heap.size w2 wr) ∧ Hid (MulI H H0 (dg y) (dg x i) c i j)) (fun _ y _ => n2 - (intOf y).toNat)
      case atStart => exact ⟨0, 0, H0, rfl, rfl, Nat.zero_le _, by omega, HR, HB, HMI⟩
      case round =>
        clear HMI hcell hlt
        obtain ⟨j, c, H, rfl, rfl, hj, hcc, HRj, HBj, HMj⟩ := hrel
        have hlt := HRj.out.lt
        by_cases hjm : j < n2
        · have hcell1 := (HBj.out.cell (p := ⟨g1, i, none⟩) hg1).trans (HCX.out i hin)
          have hcell2 := (HBj.out.cell (p := ⟨g2, j, none⟩) hg2).trans (HCY.out j hjm)
          have hgj : dg y j < W32 := dg_lt y j
          have hgj2 : dg y j < 4294967296 := hgj
          have hoc := World.rowIs.cell HRj.out (show i + j < n1 + n2 by omega)
          have hof := World.rowIs.frozen HRj.out (i + j)
          have hh := HMj.out.2.1 (i + j)
          have hh2 : H (i + j) < 4294967296 := hh
          obtain ⟨b1, b2, b3⟩ := mul_digit hfi2 hgj2 hh2 hcc
          have hstep := mulI_step HMj.out HFI.out hgj (t := dg x i * dg y j + H (i + j) + c) rfl
          have hset : ∀ q, DRow ((wr.drewN q).setCell ⟨w2.heap.size, i + j, none⟩ (.int .u32 (((dg x i * dg y j + H (i + j) + c) % 4294967296 : Nat) : Int))) w2.heap.size (n1 + n2) (upd H (i + j) ((dg x i * dg y j + H (i + j) + c) % 4294967296)) := fun q => dRow_set (w := wr.drewN q) (show DRow (wr.drewN q) _ _ _ from HRj.out) (i + j) _
          have hbset : ∀ q, Below w2.heap.size w2 ((wr.drewN q).setCell ⟨w2.heap.size, i + j, none⟩ (.int .u32 (((dg x i * dg y j + H (i + j) + c) % 4294967296 : Nat) : Int))) := fun q => (below_drewN HBj.out q).setCell (p := ⟨w2.heap.size, i + j, none⟩) (Nat.le_refl _) _
          generalize dg x i = X at *
          generalize dg y j = Y at *
          generalize hHij : H (i + j) = Z at *
          have e1 : (((X * Y + Z + c) % 4294967296 : Nat) : Int) = ((X : Int) * (Y : Int) + (Z : Int) + c) % 4294967296 := by
            rw [Int.natCast_emod, Int.natCast_add, Int.natCast_add, Int.natCast_mul]; rfl
          have e2 : (((X * Y + Z + c) / 4294967296 : Nat) : Int) = ((X : Int) * (Y : Int) + (Z : Int) + c) / 4294967296 := by
            rw [Int.natCast_ediv, Int.natCast_add, Int.natCast_add, Int.natCast_mul]; rfl
          have q1 : 0 ≤ (X : Int) * (Y : Int) := Int.mul_nonneg (Int.natCast_nonneg _) (Int.natCast_nonneg _)
          have q2 : (X : Int) * (Y : Int) ≤ 18446744065119617025 := by rw [← Int.natCast_mul]; exact Int.ofNat_le.2 b1
          have q3 : (X : Int) * (Y : Int) + (Z : Int) + c < 18446744073709551616 := by rw [← Int.natCast_mul, ← Int.natCast_add, ← Int.natCast_add]; exact Int.ofNat_lt.2 b2
          rw [e1] at hset hbset
          have HSTEP := Lib.hid hstep
          have HSET := Lib.hid hset
          have HBSET := Lib.hid hbset
          have E2 := Lib.hid e2
          have HHZ := Lib.hid hHij
          clear hstep hset hbset e1 e2 hgj hh hHij
          go_wp2
          go_quiet (fail)
          go_wp2
          go_roundw
          case rel => exact ⟨j + 1, (X * Y + Z + c) / 4294967296, _, by go_num, by rw [E2.out], by omega, b3, HSET.out _, HBSET.out _, HSTEP.out⟩
          case measure => simp [intOf]; omega
        · obtain rfl : j = n2 := by omega
          have hoc := World.rowIs.cell HRj.out (show i + j < n1 + j by omega)
          have hof := World.rowIs.frozen HRj.out (i + j)
          have hmo := mulO_step HM.out HMj.out
          have hset := dRow_set HRj.out (i + j) c
          have hbset := HBj.out.setCell (p := ⟨w2.heap.size, i + j, none⟩) (Nat.le_refl _) (.int .u32 (c : Int))
          have HMO := Lib.hid hmo
          have HSET := Lib.hid hset
          have HBSET := Lib.hid hbset
          clear hmo hset hbset HRj HBj HMj HM HR HB
          go_wp2
          go_roundw
          case rel => exact ⟨i + 1, _, by go_num, by omega, HSET.out, HBSET.out, HMO.out⟩
          case measure => simp [intOf]; omega
    · obtain rfl : i = n1 := by omega
      have hU := dRow_at HR.out
      have hval : valF H0 (i + n2) = x * y := by rw [HM.out.2, HX.out, HY.out]
      have hsg := rsigned_nat _ (i + n2) H0 wr hU (fun k _ => HM.out.1 k) (by omega)
      rw [hval] at hsg
      have HSG := Lib.hid hsg
      have hw2 := hr2.out.2.2.2
      have b0 := (HB.out.cell (p := ⟨w.heap.size, 0, none⟩) (show w.heap.size < w2.heap.size by omega)).trans hbox.1
      have b2 := (HB.out.cell (p := ⟨w.heap.size + 1, 0, none⟩) (show w.heap.size + 1 < w2.heap.size by omega)).trans hbox.2.2.1
      have HRC := Lib.hid (resC_next hr2.out HB.out)
      have HBD := Lib.hid (hbb2.out.trans (HB.out.mono hbb2.out.size))
      clear hsg hU hval hbox HM HR
      go_wp2_with fail
      refine HSG.out.mono ?_
      rintro _ w3 ⟨r, rfl, hr, hb3⟩
      have hrc := resC_next HRC.out hb3
      obtain ⟨⟨rb, ru, k0, k1⟩, k2, k3, k4⟩ := hrc
      have HB3 := Lib.hid (HBD.out.trans (hb3.mono HBD.out.size))
      have HRR := Lib.hid hr
      have hsr := natAt_shape hr
      clear hr hb3
      rcases hsr with rfl | ⟨g3, n3, cap3, rfl⟩
      · go_wp2
        refine bodyPost_ret (v := .agg #[.bool false, .slice none 0 0]) (by simp [results, Tryd.results98, go_sem, k0, k1]) rfl ⟨_, rfl, natAt_set HRR.out k0 _ _, ?_⟩
        exact (HB3.out.setCell (by simp; omega) _).setCell (by simp; omega) _
      · go_wp2
        refine bodyPost_ret (v := .agg #[.bool false, .slice (some ⟨g3, 0, none⟩) n3 cap3]) (by simp [results, Tryd.results98, go_sem, k0, k1]) rfl ⟨_, rfl, natAt_set HRR.out k0 _ _, ?_⟩
        exact (HB3.out.setCell (by simp; omega) _).setCell (by simp; omega) _
end Go.Proofs.YtjmldlbiihaefaaDoor
