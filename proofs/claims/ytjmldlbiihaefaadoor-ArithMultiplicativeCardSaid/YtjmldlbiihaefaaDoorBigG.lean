/- Walks of bigint: Bits of one digit, Pow of one digit. -/
import Derived.Test.YtjmldlbiihaefaaDoorBigE
import Derived.Test.YtjmldlbiihaefaaDoorBigF
import Derived.Test.YtjmldlbiihaefaaDoorAriO
import Derived.Test.YtjmldlbiihaefaaDoorShelf
namespace Go.Proofs.YtjmldlbiihaefaaDoor
open Go.RowKit HP

theorem natAt_one {w : World} {v : Value} {d : Nat} (h : NatAt w v d) (h0 : d ≠ 0) (h1 : d < 4294967296) : ∃ g cap, v = .slice (some ⟨g, 0, none⟩) 1 cap ∧ g < w.heap.size ∧ w.cell? ⟨g, 0, none⟩ = some (.int .u32 d) := by
  obtain ⟨n, h2, h3⟩ := h
  obtain rfl : n = 1 := h3.unique (len_one h0 h1)
  rcases h2 with ⟨_, h⟩ | ⟨g, cap, rfl, _, hg, hc⟩
  · cases h
  · have := hc 0 (by omega)
    rw [dg0, Nat.mod_eq_of_lt h1] at this
    exact ⟨g, cap, rfl, hg, this⟩
set_option maxHeartbeats 1000000 in
set_option maxRecDepth 100000 in
theorem bits_small (v : Value) (d : Nat) (w : World) (hv : NatAt w v d) (h0 : d ≠ 0) (h1 : d < 4294967296) :
    Calls Tryd.prog 91 #[.agg #[.bool false, v]] w fun e w' => e = .returned (.int .i64 (Lib.bitLen d)) ∧ Below w.heap.size w w' := by
  have CT := Lib.hid (fun W (hb : Below w.heap.size w W) => trimmed_nat (K := 1) (hv.below hb (Nat.le_refl _)) (by rw [Nat.pow_one]; exact h1) (by omega))
  obtain ⟨g, cap, rfl, hg, hc⟩ := natAt_one hv h0 h1
  have cl := fun w => Tryd.bits_Len32 (d : Int) w (by omega) (by omega)
  rw [Int.toNat_natCast] at cl
  have hl := Lib.bitLen_le d 32 (by omega) (by omega)
  generalize Lib.bitLen d = L at *
  have CL := Lib.hid cl
  have hbel : Below w.heap.size w (w.alloc (.cells #[.bool false, .slice (some ⟨g, 0, none⟩) 1 cap] 69)) := below_res _ _
  have hc2 := (hbel.cell (p := ⟨g, 0, none⟩) hg).trans hc
  have HBEL := Lib.hid hbel
  clear hv cl hbel hc
  go_enter Tryd.func91, Tryd.ntmps91
  go_wp2_with fail
  refine (CT.out _ HBEL.out).mono ?_
  rintro _ w0 ⟨rfl, rfl⟩
  go_wp2_with fail
  refine (CL.out _).mono ?_
  rintro _ w0 ⟨rfl, rfl⟩
  go_wp2
  go_ret
  exact ⟨rfl, HBEL.out⟩

theorem mul_nat (v u : Value) (x y : Nat) (K : Nat) (w : World) (hv : NatAt w v x) (hu : NatAt w u y) (hx : x < W32 ^ K) (hy : y < W32 ^ K) (hK : K ≤ 1000000) :
    Calls Tryd.prog 55 #[.agg #[.bool false, v], .agg #[.bool false, u]] w fun e w' => ∃ r, e = .returned (.agg #[.bool false, r]) ∧ NatAt w' r (x * y) ∧ Below w.heap.size w w' := by
  refine (mul_any (.agg #[.bool false, v]) (.agg #[.bool false, u]) x y K w ⟨v, by rw [bool_nat], by rw [Int.natAbs_natCast]; exact hv⟩ ⟨u, by rw [bool_nat], by rw [Int.natAbs_natCast]; exact hu⟩ (by rw [Int.natAbs_natCast]; exact hx) (by rw [Int.natAbs_natCast]; exact hy) hK).mono ?_
  rintro e w' ⟨val, rfl, ⟨r, rfl, hr⟩, hb⟩
  rw [← Int.natCast_mul, Int.natAbs_natCast] at hr
  exact ⟨r, by rw [← Int.natCast_mul, bool_nat], hr, hb⟩

/-- what the rounds of Pow keep: the base in its box, the power so far in a variable -/
def PowS (w : World) (V : Nat) (v : Value) (d x : Nat) (wr : World) : Prop :=
  NatAt wr v d ∧ (wr.cell? ⟨w.heap.size, 0, none⟩ = some (.bool false) ∧ wr.cell? ⟨w.heap.size, 1, none⟩ = some v) ∧ (∃ u, wr.cell? ⟨V, 0, none⟩ = some (.bool false) ∧ wr.cell? ⟨V, 1, none⟩ = some u ∧ NatAt wr u x) ∧
  wr.frozen? ⟨V, 0, none⟩ = false ∧ wr.frozen? ⟨V, 1, none⟩ = false ∧ ResC (w.heap.size + 1) wr ∧ w.heap.size + 2 ≤ V ∧ V < wr.heap.size ∧ Below w.heap.size w wr
theorem powS_mul {w wr w1 : World} {V : Nat} {v r : Value} {d x y : Nat} (h : PowS w V v d x wr) (hb : Below wr.heap.size wr w1) (hr : NatAt w1 r y) :
    (∃ u, w1.cell? ⟨V, 0, none⟩ = some (.bool false) ∧ w1.cell? ⟨V, 1, none⟩ = some u) ∧ w1.frozen? ⟨V, 0, none⟩ = false ∧ w1.frozen? ⟨V, 1, none⟩ = false ∧ PowS w V v d y ((w1.setCell ⟨V, 0, none⟩ (.bool false)).setCell ⟨V, 1, none⟩ r) := by
  obtain ⟨h1, ⟨h2, h3⟩, ⟨u, h4, h5, h6⟩, h7, h8, h9, h10, h11, h12⟩ := h
  have hw := h12.size
  have k0 := (hb.cell (p := ⟨V, 0, none⟩) h11).trans h4
  have k1 := (hb.cell (p := ⟨V, 1, none⟩) h11).trans h5
  have k2 := (hb.frozen (p := ⟨V, 0, none⟩) h11).trans h7
  have k3 := (hb.frozen (p := ⟨V, 1, none⟩) h11).trans h8
  have hA : w.heap.size < wr.heap.size := by omega
  have a0 := (hb.cell (p := ⟨w.heap.size, 0, none⟩) hA).trans h2
  have a1 := (hb.cell (p := ⟨w.heap.size, 1, none⟩) hA).trans h3
  have hsz : ((w1.setCell ⟨V, 0, none⟩ (.bool false)).setCell ⟨V, 1, none⟩ r).heap.size = w1.heap.size := by simp [World.setCell]
  have hb1 := hb.size
  obtain ⟨⟨rb, ru, r0, r1⟩, r2, r3, r4⟩ := resC_next h9 hb
  refine ⟨⟨u, k0, k1⟩, k2, k3, natAt_set (h1.below hb (Nat.le_refl _)) k0 _ _, ⟨cell_set2 (by omega) a0, cell_set2 (by omega) a1⟩, ⟨r, ?_, ?_, natAt_set hr k0 _ _⟩, ?_, ?_, ⟨⟨rb, ru, cell_set2 (by omega) r0, cell_set2 (by omega) r1⟩, ?_, ?_, by rw [hsz]; exact r4⟩, h10, by rw [hsz]; omega, ?_⟩
  · rw [World.cell?_setCell_other _ _ _ _ (by simp)]
    exact World.cell?_setCell_same _ _ _ k0
  · exact World.cell?_setCell_same _ _ _ ((World.cell?_setCell_other _ _ _ _ (by simp)).trans k1)
  · rw [World.frozen?_setCell, World.frozen?_setCell]; exact k2
  · rw [World.frozen?_setCell, World.frozen?_setCell]; exact k3
  · rw [World.frozen?_setCell, World.frozen?_setCell]; exact r2
  · rw [World.frozen?_setCell, World.frozen?_setCell]; exact r3
  · exact ((h12.trans (hb.mono (by omega))).setCell (by show w.heap.size ≤ V; omega) _).setCell (by show w.heap.size ≤ V; omega) _

theorem powS_start {w w2 : World} {v u : Value} {d : Nat} (t : TypeId) (hv : NatAt w v d) (hk : w2.cell? ⟨w.heap.size, 0, none⟩ = some (.bool false) ∧ w2.cell? ⟨w.heap.size, 1, none⟩ = some v) (hr : ResC (w.heap.size + 1) w2) (hb : Below w.heap.size w w2) (hu : NatAt w2 u 1) :
    PowS w w2.heap.size v d 1 (w2.alloc (.cells #[.bool false, u] t)) := by
  have hba : Below w2.heap.size w2 (w2.alloc (.cells #[.bool false, u] t)) := below_res _ _
  have h4 := hr.2.2.2
  have hbb : Below w.heap.size w (w2.alloc (.cells #[.bool false, u] t)) := hb.trans (hba.mono (by omega))
  refine ⟨hv.below hbb (Nat.le_refl _), ⟨(World.cell?_alloc_past _ _ _ (by omega)).trans hk.1, (World.cell?_alloc_past _ _ _ (by omega)).trans hk.2⟩, ⟨u, ?_, ?_, hu.below hba (Nat.le_refl _)⟩, World.frozen?_alloc_at _ _ _ _ rfl, World.frozen?_alloc_at _ _ _ _ rfl, resC_next hr hba, by omega, by simp, hbb⟩
  · rw [World.cell?_alloc_at _ _ _ _ rfl]; rfl
  · rw [World.cell?_alloc_at _ _ _ _ rfl]; rfl
theorem pow_bound {d e : Nat} (h : d < 4294967296) (he : e ≤ 64) : d ^ e < W32 ^ 65 := by
  have h1 : d ^ e ≤ W32 ^ e := Nat.pow_le_pow_left (by rw [w32_eq]; omega) e
  have h2 : W32 ^ e ≤ W32 ^ 64 := Nat.pow_le_pow_right (by decide) he
  have h3 : W32 ^ 64 < W32 ^ 65 := Nat.pow_lt_pow_right (by decide) (by omega)
  omega
theorem bitLen_one {d : Nat} (h0 : d ≠ 0) (h1 : d < 4294967296) (h : Lib.bitLen d ≤ 1) : d = 1 := by
  have h2 := lt_bitLenAux 64 d (by omega)
  have h3 : 2 ^ Lib.bitLenAux 64 d ≤ 2 ^ 1 := Nat.pow_le_pow_right (by omega) h
  omega

set_option maxHeartbeats 2000000 in
set_option maxRecDepth 100000 in
theorem pow_small (v : Value) (d N : Nat) (w : World) (hv : NatAt w v d) (h0 : d ≠ 0) (h1 : d < 4294967296) (hN : N ≤ 64) :
    Calls Tryd.prog 78 #[.agg #[.bool false, v], .int .i64 N] w fun e w' => ∃ r, e = .returned (.tuple #[.agg #[.bool false, r], .int .i64 0]) ∧ NatAt w' r (d ^ N) ∧ Below w.heap.size w w' := by
  obtain ⟨g, cap, rfl, hg, hc⟩ := natAt_one hv h0 h1
  have CB := Lib.hid (fun W (hb : Below w.heap.size w W) => bits_small _ d W (hv.below hb (Nat.le_refl _)) h0 h1)
  have hl := Lib.bitLen_le d 32 (by omega) (by omega)
  have hl1 := bitLen_one h0 h1
  have COF := Lib.hid (fun W => of_nat 1 W (by omega))
  have d0 : decide ((N : Int) < 0) = false := by simp
  generalize hX : d ^ N = X at *
  have HX := Lib.hid hX
  clear hX
  generalize Lib.bitLen d = L at *
  have HV := Lib.hid hv
  have hres := resC_start w (.cells #[.bool false, .slice (some ⟨g, 0, none⟩) 1 cap] 69) 69 _ rfl
  have HRES := Lib.hid hres
  have hbel : Below w.heap.size w ((w.alloc (.cells #[.bool false, .slice (some ⟨g, 0, none⟩) 1 cap] 69)).alloc (.cells #[.bool false, .slice none 0 0] 69)) := (((Below.refl _ _).alloc (Nat.le_refl _) _).alloc (by simp) _)
  have HBEL := Lib.hid hbel
  have hk0 : ((w.alloc (.cells #[.bool false, .slice (some ⟨g, 0, none⟩) 1 cap] 69)).alloc (.cells #[.bool false, .slice none 0 0] 69)).cell? ⟨w.heap.size, 0, none⟩ = some (.bool false) := by
    rw [World.cell?_alloc_past _ _ _ (by simp), World.cell?_alloc_at _ _ _ _ rfl]; rfl
  have hk1 : ((w.alloc (.cells #[.bool false, .slice (some ⟨g, 0, none⟩) 1 cap] 69)).alloc (.cells #[.bool false, .slice none 0 0] 69)).cell? ⟨w.heap.size, 1, none⟩ = some (.slice (some ⟨g, 0, none⟩) 1 cap) := by
    rw [World.cell?_alloc_past _ _ _ (by simp), World.cell?_alloc_at _ _ _ _ rfl]; rfl
  have HK := Lib.hid (And.intro hk0 hk1)
  clear hv hres hbel hk0 hk1
  go_enter Tryd.func78, Tryd.ntmps78
  go_wp2_with fail
  refine (CB.out _ HBEL.out).mono ?_
  rintro _ w1 ⟨rfl, hb1⟩
  have HR1 := Lib.hid (resC_next HRES.out hb1)
  have HB1 := Lib.hid (HBEL.out.trans (hb1.mono HBEL.out.size))
  have HK1 := Lib.hid (And.intro ((hb1.cell (p := ⟨w.heap.size, 0, none⟩) (by simp; omega)).trans HK.out.1) ((hb1.cell (p := ⟨w.heap.size, 1, none⟩) (by simp; omega)).trans HK.out.2))
  clear hb1 HRES HBEL HK
  by_cases hL : L ≤ 1
  · have hd1 := hl1 hL
    have e1 : d ^ (min N (2 + N % 2)) = X := by rw [← HX.out, hd1, Nat.one_pow, Nat.one_pow]
    have HE := Lib.hid e1
    have t1 : decide ((1 : Int) < (L : Int)) = false := by rw [decide_eq_false_iff_not]; omega
    have t1' : decide (1 < L) = false := by rw [decide_eq_false_iff_not]; omega
    have t2 : decide ((L : Int) ≤ 1) = true := by rw [decide_eq_true_iff]; omega
    have t2' : decide (L ≤ 1) = true := by rw [decide_eq_true_iff]; omega
    have hM : min N (2 + N % 2) ≤ 64 := Nat.le_trans (Nat.min_le_left _ _) hN
    clear e1 hl hl1
    have hmin : min (N : Int) (2 + (N : Int) % 2) = ((min N (2 + N % 2) : Nat) : Int) := by omega
    generalize min N (2 + N % 2) = E at *
    have hE := hM
    have hd2 := h0
    have hd3 := h1
    clear hM hd1
    go_wp2_with fail
    refine (COF.out _).mono ?_
    rintro _ w2 ⟨val, rfl, hval, hb2⟩
    obtain ⟨u, rfl, hu⟩ := hval
    have hu1 : NatAt w2 u 1 := hu
    have HR2 := Lib.hid (resC_next HR1.out hb2)
    have HB2 := Lib.hid (HB1.out.trans (hb2.mono HB1.out.size))
    have hl1 := HR1.out.2.2.2
    have HK2 := Lib.hid (And.intro ((hb2.cell (p := ⟨w.heap.size, 0, none⟩) (by show w.heap.size < w1.heap.size; omega)).trans HK1.out.1) ((hb2.cell (p := ⟨w.heap.size, 1, none⟩) (by show w.heap.size < w1.heap.size; omega)).trans HK1.out.2))
    have HPS := Lib.hid (powS_start 69 HV.out HK2.out HR2.out HB2.out hu1)
    obtain ⟨gu, cu, rfl, _, _⟩ := natAt_one hu1 (by omega) (by omega)
    clear hb2 hu hu1 HR1 HB1 HK1
    have cl := fun w => len_any (E : Int) w (by omega) (by omega)
    rw [Int.toNat_natCast] at cl
    have hlb := bitLen_64 E (by omega)
    have hlz := lt_bitLen E (by omega)
    have hst : d ^ (E / 2 ^ Lib.bitLen E) = 1 := by rw [hlz, Nat.pow_zero]
    generalize Lib.bitLen E = Lb at *
    have CLEN := Lib.hid cl
    have HST := Lib.hid hst
    clear cl hlz hst
    go_wp2_with (go_at_call 86; refine (CLEN.out _).mono ?_; rintro e w' ⟨rfl, rfl⟩)
    generalize w2.heap.size = V at *
    go_loopw [8] (fun y wr => ∃ j : Nat, y = .int .i64 ((j : Int) - 1) ∧ j ≤ 64 ∧ Hid (PowS w V (.slice (some ⟨g, 0, none⟩) 1 cap) d (d ^ (E / 2 ^ j)) wr)) (fun y _ => (intOf y + 1).toNat)
    case atStart => exact ⟨Lb, rfl, hlb, by rw [HST.out]; exact HPS.out⟩
    case round =>
      obtain ⟨j, rfl, hj, HP⟩ := hrel
      by_cases hj0 : j = 0
      · subst hj0
        have hp := HP.out
        rw [Nat.pow_zero, Nat.div_one, HE.out] at hp
        have HPX := Lib.hid hp
        obtain ⟨_, _, ⟨u, p1, p2, p3⟩, _, _, ⟨⟨rb, ru, r0, r1⟩, r2, r3, r4⟩, p4, p5, p6⟩ := hp
        have hVc : V ≠ w.heap.size + 1 := by omega
        have HPB := Lib.hid p6
        have HP3 := Lib.hid p3
        have hsu := natAt_shape p3
        clear p3 p6 HP HPX
        rcases hsu with rfl | ⟨g2, n2, cap2, rfl⟩
        · go_wp2
          refine bodyPost_ret (v := .tuple #[.agg #[.bool false, .slice none 0 0], .int .i64 0]) (by simp [results, Tryd.results78, go_sem, r0, r1]) rfl ⟨_, rfl, natAt_set HP3.out r0 _ _, ?_⟩
          exact (HPB.out.setCell (by simp) _).setCell (by simp) _
        · go_wp2
          refine bodyPost_ret (v := .tuple #[.agg #[.bool false, .slice (some ⟨g2, 0, none⟩) n2 cap2], .int .i64 0]) (by simp [results, Tryd.results78, go_sem, r0, r1]) rfl ⟨_, rfl, natAt_set HP3.out r0 _ _, ?_⟩
          exact (HPB.out.setCell (by simp) _).setCell (by simp) _
      · obtain ⟨i, rfl⟩ : ∃ i, j = i + 1 := ⟨j - 1, by omega⟩
        have hb := and_bit (E / 2 ^ i) (by have := Nat.div_le_self E (2 ^ i); omega)
        rw [Int.natCast_ediv, Int.natCast_pow] at hb
        have hdd : E / 2 ^ i = 2 * (E / 2 ^ (i + 1)) + E / 2 ^ i % 2 := by
          rw [Nat.pow_succ, ← Nat.div_div_eq_div_mul]; omega
        have hEb : E / 2 ^ (i + 1) ≤ 64 := Nat.le_trans (Nat.div_le_self _ _) hE
        have hEb2 : E / 2 ^ i ≤ 64 := Nat.le_trans (Nat.div_le_self _ _) hE
        have hxb := pow_bound (e := E / 2 ^ (i + 1)) hd3 hEb
        have hsq : d ^ (E / 2 ^ (i + 1)) * d ^ (E / 2 ^ (i + 1)) = d ^ (2 * (E / 2 ^ (i + 1))) := by rw [← Nat.pow_add, Nat.two_mul]
        have hxb2 := pow_bound (e := 2 * (E / 2 ^ (i + 1))) hd3 (by omega)
        have hdb : d < W32 ^ 65 := by have := pow_bound (e := 1) hd3 (by omega); rwa [Nat.pow_one] at this
        have hb1 : E / 2 ^ i % 2 = 1 → d ^ (2 * (E / 2 ^ (i + 1))) * d = d ^ (E / 2 ^ i) := fun h => by
          rw [← Nat.pow_succ]; congr 1; omega
        have hb0 : ¬ E / 2 ^ i % 2 = 1 → d ^ (2 * (E / 2 ^ (i + 1))) = d ^ (E / 2 ^ i) := fun h => by
          congr 1; omega
        have hp := HP.out
        obtain ⟨_, _, ⟨u, p1, p2, p3⟩, _, _, _, p4, p5, p6⟩ := hp
        have c1 := mul_nat u u _ _ 65 wr p3 p3 hxb hxb (by omega)
        rw [hsq] at c1
        have C1 := Lib.hid c1
        generalize d ^ (2 * (E / 2 ^ (i + 1))) = y at *
        generalize d ^ (E / 2 ^ (i + 1)) = x at *
        generalize hz : d ^ (E / 2 ^ i) = z at *
        have HZ := Lib.hid hz
        clear p3 p6 c1 hsq hdd hxb hz hEb hEb2
        by_cases hbit : E / 2 ^ i % 2 = 1
        · have hyz := hb1 hbit
          have tb : (bits BinOp.and IntKind.i64 ((E : Int) / 2 ^ i) 1 == 1) = true := by rw [show (2 : Int) = ((2 : Nat) : Int) from rfl, hb, hbit]; rfl
          have HYZ := Lib.hid hyz
          clear hb hb1 hb0 hbit hyz
          go_wp2_with fail
          refine C1.out.mono ?_
          rintro _ w3 ⟨r, rfl, hr, hb3⟩
          obtain ⟨⟨u1, k0, k1⟩, k2, k3, hps⟩ := powS_mul HP.out hb3 hr
          have HPS2 := Lib.hid hps
          have c2 := mul_nat r _ y d 65 _ (natAt_set hr k0 (.bool false) r) hps.1 hxb2 hdb (by omega)
          have C2 := Lib.hid c2
          have hV3 : V < w3.heap.size := by have := hb3.size; omega
          have hsr := natAt_shape hr
          have a0 := hps.2.1.1
          have a1 := hps.2.1.2
          clear hps c2 hr hb3 p1 p2 p5 HP C1
          rcases hsr with rfl | ⟨g2, n2, cap2, rfl⟩
          all_goals
            go_wp2_with fail
            refine C2.out.mono ?_
            rintro _ w4 ⟨r', rfl, hr', hb4⟩
            obtain ⟨⟨u2, m0, m1⟩, m2, m3, hps⟩ := powS_mul HPS2.out hb4 hr'
            have HPS3 := Lib.hid hps
            have hsr := natAt_shape hr'
            clear hps hr' hb4 a0 a1 C2 HPS2 k0 k1 k2 k3
            rcases hsr with rfl | ⟨g3, n3, cap3, rfl⟩
            all_goals
              go_wp2
              go_roundw
              case rel => exact ⟨i, by go_num, by omega, by rw [HZ.out, ← HYZ.out]; exact HPS3.out⟩
              case measure => simp [intOf]
        · have hyz := hb0 hbit
          have tb : (bits BinOp.and IntKind.i64 ((E : Int) / 2 ^ i) 1 == 1) = false := by rw [show (2 : Int) = ((2 : Nat) : Int) from rfl, hb, show E / 2 ^ i % 2 = 0 by omega]; rfl
          have HYZ := Lib.hid hyz
          clear hb hb1 hb0 hbit hyz
          go_wp2_with fail
          refine C1.out.mono ?_
          rintro _ w3 ⟨r, rfl, hr, hb3⟩
          obtain ⟨⟨u1, k0, k1⟩, k2, k3, hps⟩ := powS_mul HP.out hb3 hr
          have HPS2 := Lib.hid hps
          have hsr := natAt_shape hr
          clear hps hr hb3 p1 p2 p5 HP C1
          rcases hsr with rfl | ⟨g2, n2, cap2, rfl⟩
          all_goals
            go_wp2
            go_roundw
            case rel => exact ⟨i, by go_num, by omega, by rw [HZ.out, ← HYZ.out]; exact HPS2.out⟩
            case measure => simp [intOf]
  · have t1 : decide ((1 : Int) < (L : Int)) = true := by rw [decide_eq_true_iff]; omega
    have t1' : decide (1 < L) = true := by rw [decide_eq_true_iff]; omega
    have t2 : decide ((L : Int) ≤ 1) = false := by rw [decide_eq_false_iff_not]; omega
    have t2' : decide (L ≤ 1) = false := by rw [decide_eq_false_iff_not]; omega
    have q1 : 64 ≤ 1048576 / L := (Nat.le_div_iff_mul_le (by omega)).2 (by omega)
    have q2 : (1048576 : Int) / (L : Int) = ((1048576 / L : Nat) : Int) := rfl
    have t3 : decide ((1048576 : Int) / (L : Int) < (N : Int)) = false := by rw [q2, decide_eq_false_iff_not]; omega
    have t4 : ¬ L = 0 := by omega
    have q3 : (1048576 : Int) / (L : Int) ≤ 1048576 := by rw [q2]; have := Nat.div_le_self 1048576 L; omega
    have q4 : 0 ≤ (1048576 : Int) / (L : Int) := by rw [q2]; omega
    have HE := HX
    have hE := hN
    have hd2 := h0
    have hd3 := h1
    clear q1 q2 hL hl hl1
    obtain ⟨E, hEN⟩ : ∃ E, E = N := ⟨N, rfl⟩
    subst hEN
    go_wp2_with fail
    refine (COF.out _).mono ?_
    rintro _ w2 ⟨val, rfl, hval, hb2⟩
    obtain ⟨u, rfl, hu⟩ := hval
    have hu1 : NatAt w2 u 1 := hu
    have HR2 := Lib.hid (resC_next HR1.out hb2)
    have HB2 := Lib.hid (HB1.out.trans (hb2.mono HB1.out.size))
    have hl1 := HR1.out.2.2.2
    have HK2 := Lib.hid (And.intro ((hb2.cell (p := ⟨w.heap.size, 0, none⟩) (by show w.heap.size < w1.heap.size; omega)).trans HK1.out.1) ((hb2.cell (p := ⟨w.heap.size, 1, none⟩) (by show w.heap.size < w1.heap.size; omega)).trans HK1.out.2))
    have HPS := Lib.hid (powS_start 69 HV.out HK2.out HR2.out HB2.out hu1)
    obtain ⟨gu, cu, rfl, _, _⟩ := natAt_one hu1 (by omega) (by omega)
    clear hb2 hu hu1 HR1 HB1 HK1
    have cl := fun w => len_any (E : Int) w (by omega) (by omega)
    rw [Int.toNat_natCast] at cl
    have hlb := bitLen_64 E (by omega)
    have hlz := lt_bitLen E (by omega)
    have hst : d ^ (E / 2 ^ Lib.bitLen E) = 1 := by rw [hlz, Nat.pow_zero]
    generalize Lib.bitLen E = Lb at *
    have CLEN := Lib.hid cl
    have HST := Lib.hid hst
    clear cl hlz hst
    go_wp2_with (go_at_call 86; refine (CLEN.out _).mono ?_; rintro e w' ⟨rfl, rfl⟩)
    generalize w2.heap.size = V at *
    go_loopw [8] (fun y wr => ∃ j : Nat, y = .int .i64 ((j : Int) - 1) ∧ j ≤ 64 ∧ Hid (PowS w V (.slice (some ⟨g, 0, none⟩) 1 cap) d (d ^ (E / 2 ^ j)) wr)) (fun y _ => (intOf y + 1).toNat)
    case atStart => exact ⟨Lb, rfl, hlb, by rw [HST.out]; exact HPS.out⟩
    case round =>
      obtain ⟨j, rfl, hj, HP⟩ := hrel
      by_cases hj0 : j = 0
      · subst hj0
        have hp := HP.out
        rw [Nat.pow_zero, Nat.div_one, HE.out] at hp
        have HPX := Lib.hid hp
        obtain ⟨_, _, ⟨u, p1, p2, p3⟩, _, _, ⟨⟨rb, ru, r0, r1⟩, r2, r3, r4⟩, p4, p5, p6⟩ := hp
        have hVc : V ≠ w.heap.size + 1 := by omega
        have HPB := Lib.hid p6
        have HP3 := Lib.hid p3
        have hsu := natAt_shape p3
        clear p3 p6 HP HPX
        rcases hsu with rfl | ⟨g2, n2, cap2, rfl⟩
        · go_wp2
          refine bodyPost_ret (v := .tuple #[.agg #[.bool false, .slice none 0 0], .int .i64 0]) (by simp [results, Tryd.results78, go_sem, r0, r1]) rfl ⟨_, rfl, natAt_set HP3.out r0 _ _, ?_⟩
          exact (HPB.out.setCell (by simp) _).setCell (by simp) _
        · go_wp2
          refine bodyPost_ret (v := .tuple #[.agg #[.bool false, .slice (some ⟨g2, 0, none⟩) n2 cap2], .int .i64 0]) (by simp [results, Tryd.results78, go_sem, r0, r1]) rfl ⟨_, rfl, natAt_set HP3.out r0 _ _, ?_⟩
          exact (HPB.out.setCell (by simp) _).setCell (by simp) _
      · obtain ⟨i, rfl⟩ : ∃ i, j = i + 1 := ⟨j - 1, by omega⟩
        have hb := and_bit (E / 2 ^ i) (by have := Nat.div_le_self E (2 ^ i); omega)
        rw [Int.natCast_ediv, Int.natCast_pow] at hb
        have hdd : E / 2 ^ i = 2 * (E / 2 ^ (i + 1)) + E / 2 ^ i % 2 := by
          rw [Nat.pow_succ, ← Nat.div_div_eq_div_mul]; omega
        have hEb : E / 2 ^ (i + 1) ≤ 64 := Nat.le_trans (Nat.div_le_self _ _) hE
        have hEb2 : E / 2 ^ i ≤ 64 := Nat.le_trans (Nat.div_le_self _ _) hE
        have hxb := pow_bound (e := E / 2 ^ (i + 1)) hd3 hEb
        have hsq : d ^ (E / 2 ^ (i + 1)) * d ^ (E / 2 ^ (i + 1)) = d ^ (2 * (E / 2 ^ (i + 1))) := by rw [← Nat.pow_add, Nat.two_mul]
        have hxb2 := pow_bound (e := 2 * (E / 2 ^ (i + 1))) hd3 (by omega)
        have hdb : d < W32 ^ 65 := by have := pow_bound (e := 1) hd3 (by omega); rwa [Nat.pow_one] at this
        have hb1 : E / 2 ^ i % 2 = 1 → d ^ (2 * (E / 2 ^ (i + 1))) * d = d ^ (E / 2 ^ i) := fun h => by
          rw [← Nat.pow_succ]; congr 1; omega
        have hb0 : ¬ E / 2 ^ i % 2 = 1 → d ^ (2 * (E / 2 ^ (i + 1))) = d ^ (E / 2 ^ i) := fun h => by
          congr 1; omega
        have hp := HP.out
        obtain ⟨_, _, ⟨u, p1, p2, p3⟩, _, _, _, p4, p5, p6⟩ := hp
        have c1 := mul_nat u u _ _ 65 wr p3 p3 hxb hxb (by omega)
        rw [hsq] at c1
        have C1 := Lib.hid c1
        generalize d ^ (2 * (E / 2 ^ (i + 1))) = y at *
        generalize d ^ (E / 2 ^ (i + 1)) = x at *
        generalize hz : d ^ (E / 2 ^ i) = z at *
        have HZ := Lib.hid hz
        clear p3 p6 c1 hsq hdd hxb hz hEb hEb2
        by_cases hbit : E / 2 ^ i % 2 = 1
        · have hyz := hb1 hbit
          have tb : (bits BinOp.and IntKind.i64 ((E : Int) / 2 ^ i) 1 == 1) = true := by rw [show (2 : Int) = ((2 : Nat) : Int) from rfl, hb, hbit]; rfl
          have HYZ := Lib.hid hyz
          clear hb hb1 hb0 hbit hyz
          go_wp2_with fail
          refine C1.out.mono ?_
          rintro _ w3 ⟨r, rfl, hr, hb3⟩
          obtain ⟨⟨u1, k0, k1⟩, k2, k3, hps⟩ := powS_mul HP.out hb3 hr
          have HPS2 := Lib.hid hps
          have c2 := mul_nat r _ y d 65 _ (natAt_set hr k0 (.bool false) r) hps.1 hxb2 hdb (by omega)
          have C2 := Lib.hid c2
          have hV3 : V < w3.heap.size := by have := hb3.size; omega
          have hsr := natAt_shape hr
          have a0 := hps.2.1.1
          have a1 := hps.2.1.2
          clear hps c2 hr hb3 p1 p2 p5 HP C1
          rcases hsr with rfl | ⟨g2, n2, cap2, rfl⟩
          all_goals
            go_wp2_with fail
            refine C2.out.mono ?_
            rintro _ w4 ⟨r', rfl, hr', hb4⟩
            obtain ⟨⟨u2, m0, m1⟩, m2, m3, hps⟩ := powS_mul HPS2.out hb4 hr'
            have HPS3 := Lib.hid hps
            have hsr := natAt_shape hr'
            clear hps hr' hb4 a0 a1 C2 HPS2 k0 k1 k2 k3
            rcases hsr with rfl | ⟨g3, n3, cap3, rfl⟩
            all_goals
              go_wp2
              go_roundw
              case rel => exact ⟨i, by go_num, by omega, by rw [HZ.out, ← HYZ.out]; exact HPS3.out⟩
              case measure => simp [intOf]
        · have hyz := hb0 hbit
          have tb : (bits BinOp.and IntKind.i64 ((E : Int) / 2 ^ i) 1 == 1) = false := by rw [show (2 : Int) = ((2 : Nat) : Int) from rfl, hb, show E / 2 ^ i % 2 = 0 by omega]; rfl
          have HYZ := Lib.hid hyz
          clear hb hb1 hb0 hbit hyz
          go_wp2_with fail
          refine C1.out.mono ?_
          rintro _ w3 ⟨r, rfl, hr, hb3⟩
          obtain ⟨⟨u1, k0, k1⟩, k2, k3, hps⟩ := powS_mul HP.out hb3 hr
          have HPS2 := Lib.hid hps
          have hsr := natAt_shape hr
          clear hps hr hb3 p1 p2 p5 HP C1
          rcases hsr with rfl | ⟨g2, n2, cap2, rfl⟩
          all_goals
            go_wp2
            go_roundw
            case rel => exact ⟨i, by go_num, by omega, by rw [HZ.out, ← HYZ.out]; exact HPS2.out⟩
            case measure => simp [intOf]
end Go.Proofs.YtjmldlbiihaefaaDoor
