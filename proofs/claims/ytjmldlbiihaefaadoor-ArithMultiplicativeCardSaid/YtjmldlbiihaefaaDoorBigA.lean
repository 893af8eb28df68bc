/- Walks of bigint: trimmed, signed, wide, Of. -/
import Derived.Test.YtjmldlbiihaefaaDoorAriG
import Derived.Test.YtjmldlbiihaefaaDoorNumA
namespace Go.Proofs.YtjmldlbiihaefaaDoor
open Go.RowKit HP

/-- a slice value that reads as n digits -/
def U32At (w : World) (v : Value) (n : Nat) (F : Nat → Nat) : Prop :=
  (v = .slice none 0 0 ∧ n = 0) ∨ ∃ g cap, v = .slice (some ⟨g, 0, none⟩) n cap ∧ n ≤ cap ∧ g < w.heap.size ∧ ∀ i, i < n → w.cell? ⟨g, i, none⟩ = some (.int .u32 (F i))
theorem U32At.below {C : Nat} {w w' : World} {v : Value} {n : Nat} {F : Nat → Nat} (h : U32At w v n F) (hb : Below C w w') (hC : w.heap.size ≤ C) : U32At w' v n F := by
  rcases h with h | ⟨g, cap, h1, h2, h3, h4⟩
  · exact .inl h
  · exact .inr ⟨g, cap, h1, h2, by have := hb.size; omega, fun i hi => (hb.cell (p := ⟨g, i, none⟩) (show g < C by omega)).trans (h4 i hi)⟩
theorem U32At.congr {w : World} {v : Value} {n : Nat} {F G : Nat → Nat} (h : U32At w v n F) (hq : ∀ i, i < n → F i = G i) : U32At w v n G := by
  rcases h with h | ⟨g, cap, h1, h2, h3, h4⟩
  · exact .inl h
  · exact .inr ⟨g, cap, h1, h2, h3, fun i hi => by rw [h4 i hi, hq i hi]⟩
/-- a slice value that reads as the digits of a number -/
def NatAt (w : World) (v : Value) (x : Nat) : Prop := ∃ n, U32At w v n (dg x) ∧ Len x n
theorem NatAt.below {C : Nat} {w w' : World} {v : Value} {x : Nat} (h : NatAt w v x) (hb : Below C w w') (hC : w.heap.size ≤ C) : NatAt w' v x :=
  let ⟨n, h1, h2⟩ := h
  ⟨n, h1.below hb hC, h2⟩
theorem natAt_zero (w : World) : NatAt w (.slice none 0 0) 0 := ⟨0, .inl ⟨rfl, rfl⟩, len_zero⟩
theorem natAt_of {w : World} {v : Value} {n : Nat} {F : Nat → Nat} (h : U32At w v n F) (hF : ∀ i, i < n → F i < W32) (h0 : n = 0 ∨ F (n - 1) ≠ 0) : NatAt w v (valF F n) :=
  ⟨n, h.congr fun i hi => (dg_valF n i hF hi).symm, len_valF hF h0⟩
/-- a value that reads as an integer -/
def IntV (w : World) (val : Value) (x : Int) : Prop := ∃ v, val = .agg #[.bool (decide (x < 0)), v] ∧ NatAt w v x.natAbs
theorem IntV.below {C : Nat} {w w' : World} {v : Value} {x : Int} (h : IntV w v x) (hb : Below C w w') (hC : w.heap.size ≤ C) : IntV w' v x :=
  let ⟨u, h1, h2⟩ := h
  ⟨u, h1, h2.below hb hC⟩

/-- how many digits are left without the zeros at the end -/
def tlen (F : Nat → Nat) : Nat → Nat
  | 0 => 0
  | n + 1 => if F n = 0 then tlen F n else n + 1
def vcut : Value → Nat → Value
  | .slice (some a) _ cap, n => .slice (some a) n cap
  | v, _ => v
theorem tlen_le (F : Nat → Nat) : ∀ n, tlen F n ≤ n
  | 0 => Nat.le_refl _
  | n + 1 => by
    rw [tlen]; split
    · have := tlen_le F n; omega
    · exact Nat.le_refl _
theorem tlen_val (F : Nat → Nat) : ∀ n, valF F (tlen F n) = valF F n
  | 0 => rfl
  | n + 1 => by
    rw [tlen]; split
    · next h => rw [tlen_val F n, valF, h, Nat.zero_mul, Nat.add_zero]
    · rfl
theorem tlen_top (F : Nat → Nat) : ∀ n, tlen F n = 0 ∨ F (tlen F n - 1) ≠ 0
  | 0 => .inl rfl
  | n + 1 => by
    rw [tlen]; split
    · exact tlen_top F n
    · next h => exact .inr h
theorem natAt_cut {W : World} {v : Value} {n : Nat} {F : Nat → Nat} (h : U32At W v n F) (hF : ∀ i, i < n → F i < W32) : NatAt W (vcut v (tlen F n)) (valF F n) := by
  have h1 := tlen_le F n
  rw [← tlen_val]
  rcases h with ⟨rfl, rfl⟩ | ⟨g, cap, rfl, h2, h3, h4⟩
  · exact natAt_zero W
  · exact natAt_of (.inr ⟨g, cap, rfl, by omega, h3, fun i hi => h4 i (by omega)⟩) (fun i hi => hF i (by omega)) (tlen_top F n)
def vlen : Value → Nat
  | .slice _ n _ => n
  | _ => 0

set_option maxHeartbeats 1000000 in
set_option maxRecDepth 100000 in
theorem trimmed_any (v : Value) (n : Nat) (F : Nat → Nat) (w : World) (h : U32At w v n F) (hF : ∀ i, i < n → F i < W32) (hn : n ≤ 1099511627776) :
    Calls Tryd.prog 85 #[v] w fun x w' => x = .returned (vcut v (tlen F n)) ∧ w = w' := by
  rcases h with ⟨rfl, rfl⟩ | ⟨g, cap, rfl, hcap, hg, hc⟩
  · go_enter Tryd.func85, Tryd.ntmps85
    go_wp2
    refine wp_loop_rounds 1 ?_
    rw [rounds_succ]
    go_wp2
    go_ret
    exact ⟨rfl, rfl⟩
  · have HC := Lib.hid hc
    have HF := Lib.hid hF
    clear hc hF
    go_enter Tryd.func85, Tryd.ntmps85
    go_wp2
    go_loop [0] (fun y => ∃ m : Nat, y = .slice (some ⟨g, 0, none⟩) m cap ∧ m ≤ n ∧ Hid (tlen F m = tlen F n)) (fun y => vlen y)
    case atStart => exact ⟨n, rfl, Nat.le_refl _, rfl⟩
    case round =>
      obtain ⟨m, rfl, hm, HV⟩ := hrel
      by_cases h0 : m = 0
      · subst h0
        go_wp2
        go_ret
        exact ⟨by rw [← HV.out]; rfl, rfl⟩
      · obtain ⟨j, rfl⟩ : ∃ j, m = j + 1 := ⟨m - 1, by omega⟩
        have hcell := HC.out j (by omega)
        by_cases hz : F j = 0
        · have hz' : ((F j : Int) == 0) = true := by rw [beq_iff_eq]; omega
          have e : tlen F j = tlen F n := by
            rw [← HV.out, tlen, if_pos hz]
          have E := Lib.hid e
          have hjc : j ≤ cap := by omega
          clear e HV hz
          go_wp2
          go_round
          case rel => exact ⟨j, by simp, by omega, E.out⟩
          case measure => simp [vlen]
        · have hz' : ((F j : Int) == 0) = false := by rw [beq_eq_false_iff_ne]; omega
          have hz2 := Lib.hid hz
          clear hz
          go_wp2
          go_ret
          exact ⟨by rw [← HV.out, tlen, if_neg hz2.out]; rfl, rfl⟩

theorem natAt_nonzero {w : World} {v : Value} {x : Nat} (h : NatAt w v x) : (x = 0 ∧ (v = .slice none 0 0 ∨ ∃ g cap, v = .slice (some ⟨g, 0, none⟩) 0 cap)) ∨ (x ≠ 0 ∧ ∃ g n cap, v = .slice (some ⟨g, 0, none⟩) (n + 1) cap) := by
  obtain ⟨n, h1, h2⟩ := h
  rcases h1 with ⟨rfl, rfl⟩ | ⟨g, cap, rfl, _⟩
  · exact .inl ⟨h2.zero_iff.1 rfl, .inl rfl⟩
  · by_cases h0 : n = 0
    · subst h0
      exact .inl ⟨h2.zero_iff.1 rfl, .inr ⟨g, cap, rfl⟩⟩
    · refine .inr ⟨fun h => h0 (h2.zero_iff.2 h), g, n - 1, cap, ?_⟩
      rw [show n - 1 + 1 = n by omega]

theorem below_res (w : World) (o : Obj) : Below w.heap.size w (w.alloc o) := (Below.refl _ _).alloc (Nat.le_refl _) _
set_option maxHeartbeats 1000000 in
set_option maxRecDepth 100000 in
theorem signed_any (neg : Bool) (v : Value) (n : Nat) (F : Nat → Nat) (w : World) (h : U32At w v n F) (hF : ∀ i, i < n → F i < W32) (hn : n ≤ 1099511627776) :
    Calls Tryd.prog 83 #[.bool neg, v] w fun x w' => ∃ v', x = .returned (.agg #[.bool (neg && decide (valF F n ≠ 0)), v']) ∧ NatAt w' v' (valF F n) ∧ Below w.heap.size w w' := by
  have c := fun w' (hb : Below w.heap.size w w') => trimmed_any v n F w' (h.below hb (Nat.le_refl _)) hF hn
  have hv := natAt_cut h hF
  generalize valF F n = x at *
  generalize vcut v (tlen F n) = v' at *
  have C := Lib.hid c
  clear c h hF
  go_enter Tryd.func83, Tryd.ntmps83
  go_wp2_with fail
  refine (C.out _ ((Below.refl _ _).alloc (Nat.le_refl _) _)).mono ?_
  rintro _ w1 ⟨rfl, rfl⟩
  have HV := Lib.hid hv
  rcases natAt_nonzero hv with ⟨rfl, rfl | ⟨g, cap, rfl⟩⟩ | ⟨hx, g, m, cap, rfl⟩
  · clear hv
    cases neg
    all_goals
      go_wp2
      refine bodyPost_ret (v := .agg #[.bool false, .slice none 0 0]) (by simp [results, Tryd.results83, go_sem]) rfl ⟨_, rfl, ?_, ?_⟩
      · refine HV.out.below (C := w.heap.size) ?_ (Nat.le_refl _)
        exact below_res _ _
      · exact below_res _ _
  · clear hv
    cases neg
    all_goals
      go_wp2
      refine bodyPost_ret (v := .agg #[.bool false, .slice (some ⟨g, 0, none⟩) 0 cap]) (by simp [results, Tryd.results83, go_sem]) rfl ⟨_, rfl, ?_, ?_⟩
      · refine HV.out.below (C := w.heap.size) ?_ (Nat.le_refl _)
        exact below_res _ _
      · exact below_res _ _
  · clear hv
    cases neg
    all_goals
      go_wp2
      refine bodyPost_ret (v := .agg #[.bool _, .slice (some ⟨g, 0, none⟩) (m + 1) cap]) (by simp [results, Tryd.results83, go_sem]; rfl) rfl ⟨_, by simp [hx]; rfl, ?_, ?_⟩
      · refine HV.out.below (C := w.heap.size) ?_ (Nat.le_refl _)
        exact below_res _ _
      · exact below_res _ _

theorem u32At_one (w : World) (d : Nat) (t : TypeId) : U32At (w.alloc (.cells #[.int .u32 d] t)) (.slice (some ⟨w.heap.size, 0, none⟩) 1 1) 1 (fun _ => d) := by
  refine .inr ⟨w.heap.size, 1, rfl, Nat.le_refl _, by simp, fun i hi => ?_⟩
  obtain rfl : i = 0 := by omega
  rw [World.cell?_alloc_at _ _ _ _ rfl]; rfl
theorem u32At_two (w : World) (d e : Nat) (t : TypeId) : U32At (w.alloc (.cells #[.int .u32 d, .int .u32 e] t)) (.slice (some ⟨w.heap.size, 0, none⟩) 2 2) 2 (fun i => if i = 0 then d else e) := by
  refine .inr ⟨w.heap.size, 2, rfl, Nat.le_refl _, by simp, fun i hi => ?_⟩
  have h : i = 0 ∨ i = 1 := by omega
  rcases h with rfl | rfl
  · rw [World.cell?_alloc_at _ _ _ _ rfl]; rfl
  · rw [World.cell?_alloc_at _ _ _ _ rfl]; rfl

set_option maxHeartbeats 1000000 in
theorem wide_any (N : Nat) (w : World) (hN : N < 18446744073709551616) :
    Calls Tryd.prog 90 #[.int .u64 N] w fun x w' => ∃ v n, x = .returned v ∧ U32At w' v n (dg N) ∧ Len N n ∧ Below w.heap.size w w' := by
  by_cases h0 : N = 0
  · subst h0
    go_enter Tryd.func90, Tryd.ntmps90
    go_wp2
    go_ret
    exact ⟨_, 0, rfl, .inl ⟨rfl, rfl⟩, len_zero, Below.refl _ _⟩
  · have t0 : ((N : Int) == 0) = false := by rw [beq_eq_false_iff_ne]; omega
    by_cases h1 : N < 4294967296
    · have t1 : decide ((N : Int) < 4294967296) = true := by rw [decide_eq_true_iff]; omega
      have HL := Lib.hid (len_one h0 h1)
      go_enter Tryd.func90, Tryd.ntmps90
      go_wp2
      go_ret
      refine ⟨_, 1, rfl, (u32At_one w N _).congr fun i hi => ?_, HL.out, below_res _ _⟩
      obtain rfl : i = 0 := by omega
      rw [dg0, Nat.mod_eq_of_lt h1]
    · have t1 : decide ((N : Int) < 4294967296) = false := by rw [decide_eq_false_iff_not]; omega
      have HL := Lib.hid (len_two (x := N) (by rw [w32_eq]; omega) hN)
      go_enter Tryd.func90, Tryd.ntmps90
      go_wp2
      go_ret
      have e1 : (N : Int) % 4294967296 = ((N % 4294967296 : Nat) : Int) := by omega
      have e2 : (N : Int) / 4294967296 = ((N / 4294967296 : Nat) : Int) := by omega
      refine ⟨_, 2, rfl, ?_, HL.out, below_res _ _⟩
      rw [e1, e2]
      refine (u32At_two w (N % 4294967296) (N / 4294967296) _).congr fun i hi => ?_
      have h : i = 0 ∨ i = 1 := by omega
      rcases h with rfl | rfl
      · exact (dg0 N).symm
      · exact (dg1 hN).symm

theorem natAt_shape {w : World} {v : Value} {x : Nat} (h : NatAt w v x) : v = .slice none 0 0 ∨ ∃ g n cap, v = .slice (some ⟨g, 0, none⟩) n cap := by
  obtain ⟨n, h1, _⟩ := h
  rcases h1 with ⟨h, _⟩ | ⟨g, cap, h, _⟩
  · exact .inl h
  · exact .inr ⟨g, n, cap, h⟩
/-- the result's variable: an integer, in the first block of the call's own -/
def ResW (w wr : World) : Prop :=
  (∃ b u, wr.cell? ⟨w.heap.size, 0, none⟩ = some (.bool b) ∧ wr.cell? ⟨w.heap.size, 1, none⟩ = some u) ∧ wr.frozen? ⟨w.heap.size, 0, none⟩ = false ∧ wr.frozen? ⟨w.heap.size, 1, none⟩ = false ∧ Below w.heap.size w wr ∧ w.heap.size + 1 ≤ wr.heap.size
theorem resW_start (w : World) (t : TypeId) : ResW w (w.alloc (.cells #[.bool false, .slice none 0 0] t)) := by
  refine ⟨⟨false, .slice none 0 0, ?_, ?_⟩, ?_, ?_, (Below.refl _ _).alloc (Nat.le_refl _) _, by simp⟩
  · rw [World.cell?_alloc_at _ _ _ _ rfl]; rfl
  · rw [World.cell?_alloc_at _ _ _ _ rfl]; rfl
  · exact World.frozen?_alloc_at _ _ _ _ rfl
  · exact World.frozen?_alloc_at _ _ _ _ rfl
theorem resW_next {w wr w' : World} (h : ResW w wr) (hb : Below wr.heap.size wr w') : ResW w w' := by
  obtain ⟨⟨b, u, h1, h2⟩, h3, h4, h5, h6⟩ := h
  have hlt : w.heap.size < wr.heap.size := by omega
  refine ⟨⟨b, u, ?_, ?_⟩, ?_, ?_, h5.trans (hb.mono (by omega)), by have := hb.size; omega⟩
  · exact (hb.cell (p := ⟨w.heap.size, 0, none⟩) hlt).trans h1
  · exact (hb.cell (p := ⟨w.heap.size, 1, none⟩) hlt).trans h2
  · exact (hb.frozen (p := ⟨w.heap.size, 0, none⟩) hlt).trans h3
  · exact (hb.frozen (p := ⟨w.heap.size, 1, none⟩) hlt).trans h4
theorem resW_set {w wr : World} (h : ResW w wr) (u1 u2 : Value) : Below w.heap.size w ((wr.setCell ⟨w.heap.size, 0, none⟩ u1).setCell ⟨w.heap.size, 1, none⟩ u2) :=
  (h.2.2.2.1.setCell (by exact Nat.le_refl _) _).setCell (by exact Nat.le_refl _) _

/-- digits do not lie where an integer's sign lies: a store there leaves them -/
theorem natAt_set {w : World} {v : Value} {x c : Nat} {b : Bool} (h : NatAt w v x) (hc : w.cell? ⟨c, 0, none⟩ = some (.bool b)) (u1 u2 : Value) : NatAt ((w.setCell ⟨c, 0, none⟩ u1).setCell ⟨c, 1, none⟩ u2) v x := by
  obtain ⟨n, h1, h2⟩ := h
  refine ⟨n, ?_, h2⟩
  rcases h1 with h1 | ⟨g, cap, h3, h4, h5, h6⟩
  · exact .inl h1
  · refine .inr ⟨g, cap, h3, h4, by simpa [World.setCell] using h5, fun i hi => ?_⟩
    have hgc : g ≠ c := fun e => by
      have h7 := h6 0 (by omega)
      rw [e, hc] at h7
      cases h7
    have hcg : c ≠ g := Ne.symm hgc
    rw [World.cell?_setCell_other _ _ _ _ (fun e => hcg (congrArg Addr.block e)), World.cell?_setCell_other _ _ _ _ (fun e => hcg (congrArg Addr.block e))]
    exact h6 i hi
theorem bool_nat (x : Nat) : decide ((x : Int) < 0) = false := by simp

set_option maxHeartbeats 1000000 in
set_option maxRecDepth 100000 in
theorem of_nat (N : Nat) (w : World) (hN : N ≤ 9223372036854775807) :
    Calls Tryd.prog 77 #[.int .i64 N] w fun x w' => ∃ val, x = .returned val ∧ IntV w' val N ∧ Below w.heap.size w w' := by
  have cw := fun w => wide_any N w (by omega)
  have CW := Lib.hid cw
  have t0 : decide ((N : Int) < 0) = false := by simp
  clear cw
  go_enter Tryd.func77, Tryd.ntmps77
  go_wp2_with fail
  refine (CW.out _).mono ?_
  rintro _ w1 ⟨v, n, rfl, hv, hl, hb1⟩
  have hs1 := hb1.size
  simp at hs1
  have HR1 := Lib.hid (resW_next (resW_start w _) hb1)
  clear hb1
  go_wp2_with fail
  refine (signed_any false v n (dg N) w1 hv (fun i _ => dg_lt N i) (by have := hl.le (k := 2) (by rw [show W32 ^ 2 = 18446744073709551616 by decide]; omega); omega)).mono ?_
  rw [valF_dg' hl.1]
  rintro _ w2 ⟨v', rfl, hv', hb2⟩
  have HR2 := Lib.hid (resW_next HR1.out hb2)
  obtain ⟨⟨b, u, k0, k1⟩, k2, k3, _, hs2⟩ := HR2.out
  have hlt : w.heap.size < w2.heap.size := by omega
  have HV := Lib.hid hv'
  clear hb2 hv
  rcases natAt_shape hv' with rfl | ⟨g, m, cap, rfl⟩
  · clear hv'
    go_wp2
    refine bodyPost_ret (v := .agg #[.bool false, .slice none 0 0]) (by simp [results, Tryd.results77, go_sem, k0, k1]) rfl ⟨_, rfl, ⟨_, rfl, natAt_set HV.out k0 _ _⟩, resW_set HR2.out _ _⟩
  · clear hv'
    go_wp2
    refine bodyPost_ret (v := .agg #[.bool false, .slice (some ⟨g, 0, none⟩) m cap]) (by simp [results, Tryd.results77, go_sem, k0, k1]) rfl ⟨_, rfl, ⟨_, rfl, natAt_set HV.out k0 _ _⟩, resW_set HR2.out _ _⟩
end Go.Proofs.YtjmldlbiihaefaaDoor
