/- The reference's integers: Add. -/
import Derived.Test.YtjmldlbiihaefaaDoorRbgG
import Derived.Test.YtjmldlbiihaefaaDoorRegC
import Derived.Deep.DeepCutAuto
namespace Go.Proofs.YtjmldlbiihaefaaDoor
open Go.RowKit HP

theorem norm_full (s : Bool) (v : Value) (n : Nat) (F : Nat → Nat) (w : World) (h : U32At w v n F) (hF : ∀ i, i < n → F i < W32) (hn : n ≤ 1099511627776) :
    Calls Tryd.prog 94 #[.agg #[.bool s, v]] w fun x w' => ∃ g n' cap, x = .returned (.agg #[.bool (s && decide (0 < valF F n)), .slice (some ⟨g, 0, none⟩) n' cap]) ∧ NatAt w' (.slice (some ⟨g, 0, none⟩) n' cap) (valF F n) ∧ Below w.heap.size w w' := by
  cases s
  · rw [Bool.false_and]; exact norm_slice v n F w h hF hn
  · rw [Bool.true_and]; exact norm_true v n F w h hF hn
set_option maxHeartbeats 2000000 in
set_option maxRecDepth 100000 in
theorem rsigned_full (s : Bool) (v : Value) (n : Nat) (F : Nat → Nat) (w : World) (h : U32At w v n F) (hF : ∀ i, i < n → F i < W32) (hn : n ≤ 1099511627776) :
    Calls Tryd.prog 93 #[.bool s, v] w fun x w' => ∃ g n' cap, x = .returned (.agg #[.bool (s && decide (0 < valF F n)), .slice (some ⟨g, 0, none⟩) n' cap]) ∧ NatAt w' (.slice (some ⟨g, 0, none⟩) n' cap) (valF F n) ∧ Below w.heap.size w w' := by
  have CT := Lib.hid (fun W (hb : Below w.heap.size w W) => norm_full s v n F W (h.below hb (Nat.le_refl _)) hF hn)
  have hbel : Below w.heap.size w (w.alloc (.cells #[.bool false, .slice none 0 0] 69)) := below_res _ _
  have HBEL := Lib.hid hbel
  have HRES := Lib.hid (resW_start w 69)
  have hsh := u32At_shape h
  generalize (s && decide (0 < valF F n)) = t at *
  generalize valF F n = x at *
  clear h hF hbel
  rcases hsh with rfl | ⟨g, m, cap, rfl⟩
  all_goals
    go_enter Tryd.func93, Tryd.ntmps93
    go_wp2_with fail
    refine (CT.out _ HBEL.out).mono ?_
    rintro _ w1 ⟨g2, n2, cap2, rfl, hr, hb1⟩
    have HR1 := Lib.hid (resW_next HRES.out hb1)
    obtain ⟨⟨rb, ru, k0, k1⟩, k2, k3, _, k4⟩ := HR1.out
    have hlt : w.heap.size < w1.heap.size := by omega
    have HR := Lib.hid hr
    clear hr hb1
    go_wp2
    refine bodyPost_ret (v := .agg #[.bool t, .slice (some ⟨g2, 0, none⟩) n2 cap2]) (by simp [results, Tryd.results93, go_sem, k0, k1]) rfl ⟨_, _, _, rfl, natAt_set HR.out k0 _ _, resW_set HR1.out _ _⟩
/-- a variable that the call has made: its two cells -/
def VarU (wr : World) (b : Nat) : Prop := (∃ p q, wr.cell? ⟨b, 0, none⟩ = some (.bool p) ∧ wr.cell? ⟨b, 1, none⟩ = some q) ∧ wr.frozen? ⟨b, 0, none⟩ = false ∧ wr.frozen? ⟨b, 1, none⟩ = false ∧ b < wr.heap.size
theorem VarU.below {w w' : World} {b : Nat} (h : VarU w b) (hb : Below w.heap.size w w') : VarU w' b := by
  obtain ⟨⟨p, q, h1, h2⟩, h3, h4, h5⟩ := h
  exact ⟨⟨p, q, (hb.cell (p := ⟨b, 0, none⟩) h5).trans h1, (hb.cell (p := ⟨b, 1, none⟩) h5).trans h2⟩, (hb.frozen (p := ⟨b, 0, none⟩) h5).trans h3, (hb.frozen (p := ⟨b, 1, none⟩) h5).trans h4, by have := hb.size; omega⟩
theorem varU_made (w : World) (p : Bool) (q : Value) (t : TypeId) : VarU (w.alloc (.cells #[.bool p, q] t)) w.heap.size := by
  refine ⟨⟨p, q, ?_, ?_⟩, World.frozen?_alloc_at _ _ _ _ rfl, World.frozen?_alloc_at _ _ _ _ rfl, by simp⟩ <;>
  · rw [World.cell?_alloc_at _ _ _ _ rfl]; rfl
/-- a normalized integer by its parts -/
def NrmV (s : Bool) (x : Nat) (v : Value) (w : World) : Prop := ∃ g n cap, v = .agg #[.bool s, .slice (some ⟨g, 0, none⟩) n cap] ∧ NatAt w (.slice (some ⟨g, 0, none⟩) n cap) x
/-- a variable with a normalized integer -/
def VarI (wr : World) (b : Nat) (s : Bool) (x : Nat) : Prop := (∃ g n c, wr.cell? ⟨b, 0, none⟩ = some (.bool s) ∧ wr.cell? ⟨b, 1, none⟩ = some (.slice (some ⟨g, 0, none⟩) n c) ∧ NatAt wr (.slice (some ⟨g, 0, none⟩) n c) x) ∧ b < wr.heap.size
/-- what the head of x, y := Norm(a), Norm(b) makes, operation by operation -/
def AddG (D : Nat) (ca cb : Value) (sx sy : Bool) (x y : Nat) (i : Nat) (v : Value) (w : World) : Prop :=
  match i with
  | 0 => v = ca
  | 1 => NrmV sx x v w
  | 2 => v = cb
  | 3 => NrmV sy y v w
  | _ => ∃ b, v = .pointer (some ⟨b, 0, none⟩) ∧ D ≤ b ∧ VarU w b
theorem addG_below {D : Nat} {ca cb : Value} {sx sy : Bool} {x y : Nat} : ∀ (i : Nat) (v : Value) (w w' : World), Below w.heap.size w w' → AddG D ca cb sx sy x y i v w → AddG D ca cb sx sy x y i v w'
  | 0, _, _, _, _, h => h
  | 1, _, _, _, hb, ⟨g, n, cap, h1, h2⟩ => ⟨g, n, cap, h1, h2.below hb (Nat.le_refl _)⟩
  | 2, _, _, _, _, h => h
  | 3, _, _, _, hb, ⟨g, n, cap, h1, h2⟩ => ⟨g, n, cap, h1, h2.below hb (Nat.le_refl _)⟩
  | _ + 4, _, _, _, hb, ⟨b, h1, h2, h3⟩ => ⟨b, h1, h2, h3.below hb⟩
/-- what holds throughout -/
def AddB (W0 : World) (vs : Nat → Value) (w : World) : Prop :=
  Below W0.heap.size W0 w ∧ (∀ b, vs 4 = .pointer (some ⟨b, 0, none⟩) → b < w.heap.size) ∧ (∀ b, vs 5 = .pointer (some ⟨b, 0, none⟩) → b < w.heap.size) ∧ ∀ b c, vs 4 = .pointer (some ⟨b, 0, none⟩) → vs 5 = .pointer (some ⟨c, 0, none⟩) → b ≠ c
theorem addB_next {W0 w w' : World} {vs : Nat → Value} {i : Nat} {v : Value} (h : AddB W0 vs w) (hb : Below w.heap.size w w') (hi : i < 4) : AddB W0 (updV vs i v) w' := by
  obtain ⟨h1, h2, h3, h4⟩ := h
  have hs := hb.size
  unfold AddB
  rw [updV_ne _ _ (show 4 ≠ i by omega), updV_ne _ _ (show 5 ≠ i by omega)]
  exact ⟨h1.trans (hb.mono h1.size), fun b h => by have := h2 b h; omega, fun b h => by have := h3 b h; omega, h4⟩
theorem addB_four {W0 w : World} {vs : Nat → Value} {o : Obj} (h : AddB W0 vs w) : AddB W0 (updV vs 4 (.pointer (some ⟨w.heap.size, 0, none⟩))) (w.alloc o) := by
  obtain ⟨h1, h2, h3, h4⟩ := h
  have hb := below_res w o
  unfold AddB
  rw [updV_at, updV_ne _ _ (show 5 ≠ 4 by omega)]
  refine ⟨h1.trans (hb.mono h1.size), fun b h => ?_, fun b h => ?_, fun b c h h' => ?_⟩
  · cases h; simp
  · have := h3 b h; simp; omega
  · cases h; have := h3 c h'; omega
theorem addB_five {W0 w : World} {vs : Nat → Value} {o : Obj} (h : AddB W0 vs w) : AddB W0 (updV vs 5 (.pointer (some ⟨w.heap.size, 0, none⟩))) (w.alloc o) := by
  obtain ⟨h1, h2, h3, h4⟩ := h
  have hb := below_res w o
  unfold AddB
  rw [updV_at, updV_ne _ _ (show 4 ≠ 5 by omega)]
  refine ⟨h1.trans (hb.mono h1.size), fun b h => ?_, fun b h => ?_, fun b c h h' => ?_⟩
  · have := h2 b h; simp; omega
  · cases h; simp
  · cases h'; have := h2 b h; omega

theorem varI_pair {wr : World} {x1 x2 : Nat} {p1 p2 sx sy : Bool} {q1 q2 : Value} {g1 n1 c1 g2 n2 c2 x y : Nat} (hne : x1 ≠ x2) (u1 : wr.cell? ⟨x1, 0, none⟩ = some (.bool p1)) (u2 : wr.cell? ⟨x1, 1, none⟩ = some q1) (v1 : wr.cell? ⟨x2, 0, none⟩ = some (.bool p2)) (v2 : wr.cell? ⟨x2, 1, none⟩ = some q2)
    (u5 : x1 < wr.heap.size) (v5 : x2 < wr.heap.size) (hn1 : NatAt wr (.slice (some ⟨g1, 0, none⟩) n1 c1) x) (hn2 : NatAt wr (.slice (some ⟨g2, 0, none⟩) n2 c2) y) :
    VarI ((((wr.setCell ⟨x1, 0, none⟩ (.bool sx)).setCell ⟨x1, 1, none⟩ (.slice (some ⟨g1, 0, none⟩) n1 c1)).setCell ⟨x2, 0, none⟩ (.bool sy)).setCell ⟨x2, 1, none⟩ (.slice (some ⟨g2, 0, none⟩) n2 c2)) x1 sx x ∧
    VarI ((((wr.setCell ⟨x1, 0, none⟩ (.bool sx)).setCell ⟨x1, 1, none⟩ (.slice (some ⟨g1, 0, none⟩) n1 c1)).setCell ⟨x2, 0, none⟩ (.bool sy)).setCell ⟨x2, 1, none⟩ (.slice (some ⟨g2, 0, none⟩) n2 c2)) x2 sy y := by
  have v1' := cell_set2 (u1 := .bool sx) (u2 := .slice (some ⟨g1, 0, none⟩) n1 c1) hne.symm v1
  have v2' := cell_set2 (u1 := .bool sx) (u2 := .slice (some ⟨g1, 0, none⟩) n1 c1) hne.symm v2
  have a0 : ((wr.setCell ⟨x1, 0, none⟩ (.bool sx)).setCell ⟨x1, 1, none⟩ (.slice (some ⟨g1, 0, none⟩) n1 c1)).cell? ⟨x1, 0, none⟩ = some (.bool sx) := by
    rw [World.cell?_setCell_other _ _ _ _ (by simp)]
    exact World.cell?_setCell_same _ _ _ u1
  have a1 : ((wr.setCell ⟨x1, 0, none⟩ (.bool sx)).setCell ⟨x1, 1, none⟩ (.slice (some ⟨g1, 0, none⟩) n1 c1)).cell? ⟨x1, 1, none⟩ = some (.slice (some ⟨g1, 0, none⟩) n1 c1) :=
    World.cell?_setCell_same _ _ _ ((World.cell?_setCell_other _ _ _ _ (by simp)).trans u2)
  refine ⟨⟨⟨g1, n1, c1, cell_set2 hne a0, cell_set2 hne a1, natAt_set (natAt_set hn1 u1 _ _) v1' _ _⟩, by simpa [World.setCell] using u5⟩, ⟨⟨g2, n2, c2, ?_, World.cell?_setCell_same _ _ _ ((World.cell?_setCell_other _ _ _ _ (by simp)).trans v2'), natAt_set (natAt_set hn2 u1 _ _) v1' _ _⟩, by simpa [World.setCell] using v5⟩⟩
  rw [World.cell?_setCell_other _ _ _ _ (by simp)]
  exact World.cell?_setCell_same _ _ _ v1'
set_option maxHeartbeats 4000000 in
set_option maxRecDepth 100000 in
theorem radd_same (g n cap g' m cap' : Nat) (x y : Int) (K : Nat) (w : World) (hv : IntV w (.agg #[.bool (decide (x < 0)), .slice (some ⟨g, 0, none⟩) n cap]) x) (hu : IntV w (.agg #[.bool (decide (y < 0)), .slice (some ⟨g', 0, none⟩) m cap']) y) (hx : x.natAbs < W32 ^ K) (hy : y.natAbs < W32 ^ K) (hK : K ≤ 1000000) (hs : decide (x < 0) = decide (y < 0)) :
    Calls Tryd.prog 81 #[.agg #[.bool (decide (x < 0)), .slice (some ⟨g, 0, none⟩) n cap], .agg #[.bool (decide (y < 0)), .slice (some ⟨g', 0, none⟩) m cap']] w fun e w' => ∃ r, e = .returned r ∧ IntV w' r (x + y) ∧ Below w.heap.size w w' := by
  have CN1 := Lib.hid (fun W (hb : Below w.heap.size w W) => norm_int (hv.below hb (Nat.le_refl _)) hx hK)
  have CN2 := Lib.hid (fun W (hb : Below w.heap.size w W) => norm_int (hu.below hb (Nat.le_refl _)) hy hK)
  have HBOX := Lib.hid (box_start3 w (.bool (decide (x < 0))) (.slice (some ⟨g, 0, none⟩) n cap) (.bool (decide (y < 0))) (.slice (some ⟨g', 0, none⟩) m cap') (.cells #[.bool false, .slice none 0 0] 69) 69 69)
  have HBEL := Lib.hid (show Below w.heap.size w (((w.alloc (.cells #[.bool (decide (x < 0)), .slice (some ⟨g, 0, none⟩) n cap] 69)).alloc (.cells #[.bool (decide (y < 0)), .slice (some ⟨g', 0, none⟩) m cap'] 69)).alloc (.cells #[.bool false, .slice none 0 0] 69)) from (((Below.refl _ _).alloc (Nat.le_refl _) _).alloc (by simp) _).alloc (by simp; omega) _)
  have hsz : (((w.alloc (.cells #[.bool (decide (x < 0)), .slice (some ⟨g, 0, none⟩) n cap] 69)).alloc (.cells #[.bool (decide (y < 0)), .slice (some ⟨g', 0, none⟩) m cap'] 69)).alloc (.cells #[.bool false, .slice none 0 0] 69)).heap.size = w.heap.size + 3 := by simp
  have HSZ := Lib.hid hsz
  have HRES := Lib.hid (resC_start3 w (.cells #[.bool (decide (x < 0)), .slice (some ⟨g, 0, none⟩) n cap] 69) (.cells #[.bool (decide (y < 0)), .slice (some ⟨g', 0, none⟩) m cap'] 69) 69 _ rfl)
  have hsum : (decide (x < 0) && decide (0 < x.natAbs + y.natAbs)) = decide (x + y < 0) ∧ x.natAbs + y.natAbs = (x + y).natAbs := by
    by_cases h1 : x < 0
    · have h2 : y < 0 := by rw [decide_eq_true h1] at hs; exact of_decide_eq_true hs.symm
      rw [decide_eq_true h1, Bool.true_and]
      exact ⟨by rw [decide_eq_true (by omega : 0 < x.natAbs + y.natAbs), decide_eq_true (by omega)], by omega⟩
    · have h2 : ¬ y < 0 := by rw [decide_eq_false h1] at hs; exact of_decide_eq_false hs.symm
      rw [decide_eq_false h1, Bool.false_and]
      exact ⟨by rw [decide_eq_false (by omega)], by omega⟩
  have HSUM := Lib.hid hsum
  have HX := Lib.hid hx
  have HY := Lib.hid hy
  have HS := Lib.hid hs
  clear hv hu hx hy hsz hsum hs
  generalize decide (x < 0) = sx at *
  generalize decide (y < 0) = sy at *
  go_enter Tryd.func81, Tryd.ntmps81
  go_upto_region 1 with fail
  generalize (((w.alloc (.cells #[.bool sx, .slice (some ⟨g, 0, none⟩) n cap] 69)).alloc (.cells #[.bool sy, .slice (some ⟨g', 0, none⟩) m cap'] 69)).alloc (.cells #[.bool false, .slice none 0 0] 69)) = W0 at *
  go_cut [5, 6] (fun s5 s6 wx => ∃ b1 b2 : Nat, s5 = .pointer (some ⟨b1, 0, none⟩) ∧ s6 = .pointer (some ⟨b2, 0, none⟩) ∧ Hid (VarI wx b1 sx x.natAbs) ∧ Hid (VarI wx b2 sy y.natAbs) ∧ Hid (Below W0.heap.size W0 wx) ∧ W0.heap.size ≤ b1 ∧ W0.heap.size ≤ b2)
  case first =>
    refine wp_region_made 6 [7, 8, 9, 10, 5, 6] (by kernel_rfl) (by kernel_rfl) (by kernel_rfl) (AddB W0) (AddG W0.heap.size (.agg #[.bool sx, .slice (some ⟨g, 0, none⟩) n cap]) (.agg #[.bool sy, .slice (some ⟨g', 0, none⟩) m cap']) sx sy x.natAbs y.natAbs) addG_below ?_ ?_ ?_
    · have hb0 : Below W0.heap.size W0 W0.drew := below_drewN (Below.refl _ _) 1
      refine ⟨hb0, fun b h => ?_, fun b h => ?_, fun b c h => ?_⟩ <;> cases h
    · intro i vs wr hi hB hdep
      have hwb : Below w.heap.size w wr := HBEL.out.trans (hB.1.mono (by have := HSZ.out; omega))
      have HB := Lib.hid hB
      have HWB := Lib.hid hwb
      have hlt : w.heap.size + 3 = W0.heap.size := HSZ.out.symm
      obtain ⟨b0, b1, b2, b3⟩ := HBOX.out
      have a0 := (hB.1.cell (p := ⟨w.heap.size, 0, none⟩) (by simp; omega)).trans b0
      have a1 := (hB.1.cell (p := ⟨w.heap.size, 1, none⟩) (by simp; omega)).trans b1
      have a2 := (hB.1.cell (p := ⟨w.heap.size + 1, 0, none⟩) (by simp; omega)).trans b2
      have a3 := (hB.1.cell (p := ⟨w.heap.size + 1, 1, none⟩) (by simp; omega)).trans b3
      have HSB := Lib.hid hB.1.size
      clear b0 b1 b2 b3 hB hwb hlt
      have hc : i = 0 ∨ i = 1 ∨ i = 2 ∨ i = 3 ∨ i = 4 ∨ i = 5 := by omega
      clear hi
      rcases hc with rfl | rfl | rfl | rfl | rfl | rfl
      · refine wpOp_step rfl (fun K hK => ?_)
        dsimp only [putF]
        go_simp
        exact hK _ _ ⟨_, by kernel_rfl, Below.refl _ _, rfl, addB_next HB.out (Below.refl _ _) (by omega)⟩
      · refine wpOp_step rfl (fun K hK => ?_)
        have h : vs 0 = _ := hdep 0 (by kernel_rfl)
        have c := CN1.out wr HWB.out
        rw [← h] at c
        have C := Lib.hid c
        clear c h hdep
        dsimp only [putF]
        go_simp
        refine C.out.mono ?_
        rintro _ w1 ⟨g1, n1, c1, rfl, hn1, hb1⟩
        exact hK _ _ ⟨_, by kernel_rfl, hb1, ⟨_, _, _, rfl, hn1⟩, addB_next HB.out hb1 (by omega)⟩
      · refine wpOp_step rfl (fun K hK => ?_)
        dsimp only [putF]
        go_simp
        exact hK _ _ ⟨_, by kernel_rfl, Below.refl _ _, rfl, addB_next HB.out (Below.refl _ _) (by omega)⟩
      · refine wpOp_step rfl (fun K hK => ?_)
        have h : vs 2 = _ := hdep 2 (by kernel_rfl)
        have c := CN2.out wr HWB.out
        rw [← h] at c
        have C := Lib.hid c
        clear c h hdep
        dsimp only [putF]
        go_simp
        refine C.out.mono ?_
        rintro _ w1 ⟨g1, n1, c1, rfl, hn1, hb1⟩
        exact hK _ _ ⟨_, by kernel_rfl, hb1, ⟨_, _, _, rfl, hn1⟩, addB_next HB.out hb1 (by omega)⟩
      · refine wpOp_step rfl (fun K hK => ?_)
        clear hdep
        dsimp only [putF]
        go_simp
        exact hK _ _ ⟨_, by kernel_rfl, below_res _ _, ⟨_, rfl, HSB.out, varU_made _ _ _ _⟩, addB_four HB.out⟩
      · refine wpOp_step rfl (fun K hK => ?_)
        clear hdep
        dsimp only [putF]
        go_simp
        exact hK _ _ ⟨_, by kernel_rfl, below_res _ _, ⟨_, rfl, HSB.out, varU_made _ _ _ _⟩, addB_five HB.out⟩
    · intro vs wr hB hF
      obtain ⟨g1, n1, c1, e1, hn1⟩ := hF 1 (by omega)
      obtain ⟨g2, n2, c2, e3, hn2⟩ := hF 3 (by omega)
      obtain ⟨x1, e4, hx1, ⟨p1, q1, u1, u2⟩, u3, u4, u5⟩ := hF 4 (by omega)
      obtain ⟨x2, e5, hx2, ⟨p2, q2, v1, v2⟩, v3, v4, v5⟩ := hF 5 (by omega)
      have hne := hB.2.2.2 x1 x2 e4 e5
      have hne' := hne.symm
      have HB := Lib.hid hB.1
      have H1 := Lib.hid hn1
      have H2 := Lib.hid hn2
      dsimp only [putF]
      rw [e1, e3, e4, e5]
      clear hB hF e1 e3 e4 e5 hn1 hn2 CN1 CN2
      simp only [List.drop]
      go_wp2_with fail
      go_meet
      obtain ⟨r1, r2⟩ := varI_pair (sx := sx) (sy := sy) hne u1 u2 v1 v2 u5 v5 H1.out H2.out
      exact ⟨_, _, rfl, rfl, r1, r2, (((HB.out.setCell hx1 _).setCell hx1 _).setCell hx2 _).setCell hx2 _, hx1, hx2⟩
  case rest =>
    obtain ⟨x1, x2, rfl, rfl, H1, H2, HW, hx1, hx2⟩ := hcut
    have hx1' : w.heap.size + 3 ≤ x1 := by have := HSZ.out; omega
    have hx2' : w.heap.size + 3 ≤ x2 := by have := HSZ.out; omega
    clear hx1 hx2
    obtain ⟨⟨g1, n1, c1, a0, a1, k1, u1, len1⟩, l1⟩ := H1.out
    obtain ⟨⟨g2, n2, c2, d0, d1, k2, u2, len2⟩, l2⟩ := H2.out
    have hR0 : ResC (w.heap.size + 2) W0 := ⟨HRES.out.1, HRES.out.2.1, HRES.out.2.2.1, HRES.out.2.2.2⟩
    have hR1 := resC_next hR0 HW.out
    have HR1 := Lib.hid hR1
    have hlx := len1.le HX.out
    have hly := len2.le HY.out
    have cp := fun W (hb : Below wc.heap.size wc W) => rplus_any _ _ _ _ _ _ W (u1.below hb (Nat.le_refl _)) (u2.below hb (Nat.le_refl _)) (fun i _ => dg_lt _ i) (fun i _ => dg_lt _ i) (by omega) (by omega)
    rw [valF_dg' len1.1, valF_dg' len2.1] at cp
    have CP := Lib.hid cp
    have HB0 := Lib.hid (show Below wc.heap.size wc wc.drew from below_drewN (Below.refl _ _) 1)
    have t0 : (sx == sy) = true := by rw [HS.out]; exact beq_self_eq_true _
    clear cp hR0 hR1 hlx hly u1 u2 len1 len2
    go_wp2_with fail
    have BX0 : wc.drew.cell? ⟨x1, 0, none⟩ = some (.bool sx) ∧ wc.drew.cell? ⟨x1, 1, none⟩ = some (.slice (some ⟨g1, 0, none⟩) n1 c1) ∧ wc.drew.cell? ⟨x2, 0, none⟩ = some (.bool sy) ∧ wc.drew.cell? ⟨x2, 1, none⟩ = some (.slice (some ⟨g2, 0, none⟩) n2 c2) := ⟨a0, a1, d0, d1⟩
    clear a0 a1 d0 d1
    go_region_held3 (fun W => W.cell? ⟨x1, 0, none⟩ = some (.bool sx) ∧ W.cell? ⟨x1, 1, none⟩ = some (.slice (some ⟨g1, 0, none⟩) n1 c1) ∧ W.cell? ⟨x2, 0, none⟩ = some (.bool sy) ∧ W.cell? ⟨x2, 1, none⟩ = some (.slice (some ⟨g2, 0, none⟩) n2 c2)) (first | assumption | exact box_set (by omega) (by omega) (by assumption) | go_keep)
      (first
        | (go_at_call 95; (with_reducible refine (CP.out _ HB0.out).mono ?_); rintro _ w2 ⟨r, rfl, hsm⟩; have hb3 := HB0.out.trans ((sumAt_below hsm).mono (by exact Nat.le_refl _)); have hbox := box_next (A := x1) (B := x2) hb3 (by omega) (by omega) BX0; have HR2 := Lib.hid (resC_next HR1.out hb3); have HB2 := Lib.hid ((HBEL.out.trans (HW.out.mono (by have := HSZ.out; omega))).trans (hb3.mono (by have := HW.out.size; have := HSZ.out; omega))); have HSM := Lib.hid hsm; have hsz2 := hb3.size; clear hsm hb3)
        | (go_at_call 93; obtain ⟨k, H, hu, hlt, hval, hk, hb2⟩ := HSM.out; have cs := rsigned_full sx _ k H _ hu hlt hk; rw [hval, HSUM.out.1, HSUM.out.2] at cs; (with_reducible refine cs.mono ?_); rintro _ w3 ⟨g3, n3, c3, rfl, hn3, hb4⟩; have hbox3 := box_next (A := x1) (B := x2) hb4 (by omega) (by omega) hbox; have hr3 := resC_next HR2.out hb4; obtain ⟨⟨rb, ru, q0, q1⟩, q2, q3, q4⟩ := hr3; have HB4 := Lib.hid (HB2.out.trans (hb4.mono HB2.out.size)); have HN := Lib.hid hn3; clear hn3 hb4 cs hu hlt hval hk hb2))
    go_wp2
    refine bodyPost_ret (v := .agg #[.bool (decide (x + y < 0)), .slice (some ⟨g3, 0, none⟩) n3 c3]) (by simp [results, Tryd.results81, go_sem, q0, q1]) rfl ⟨_, rfl, ⟨_, rfl, natAt_set HN.out q0 _ _⟩, ?_⟩
    exact (HB4.out.setCell (by simp; omega) _).setCell (by simp; omega) _
end Go.Proofs.YtjmldlbiihaefaaDoor
