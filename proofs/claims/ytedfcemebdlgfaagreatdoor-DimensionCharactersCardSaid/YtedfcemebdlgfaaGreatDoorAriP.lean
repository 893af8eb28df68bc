/- The walks of arith.order and arith.Order. -/
import Derived.Test.YtedfcemebdlgfaaGreatDoorAriO
import Derived.Test.YtedfcemebdlgfaaGreatDoorNumA
import Derived.Test.YtedfcemebdlgfaaGreatDoorRefF
namespace Go.Proofs.YtedfcemebdlgfaaGreatDoor
open Go.RowKit HP

/-- what the search for an order keeps in memory: the residue, the modulus, the number so far -/
def OrdW (w : World) (b : Nat) (a m : Int) (n : Nat) (wr : World) : Prop :=
  wr.cell? ⟨w.heap.size, 0, none⟩ = some (.int .i64 a) ∧ wr.cell? ⟨w.heap.size + 1, 0, none⟩ = some (.int .i64 m) ∧ wr.cell? ⟨b, 0, none⟩ = some (.int .i64 n) ∧ wr.frozen? ⟨b, 0, none⟩ = false ∧ w.heap.size + 2 ≤ b ∧ Below w.heap.size w wr
theorem ordW_drewN {w wr : World} {b : Nat} {a m : Int} {n : Nat} (h : OrdW w b a m n wr) (k : Nat) : OrdW w b a m n (wr.drewN k) := by
  obtain ⟨h1, h2, h3, h4, h5, h6⟩ := h
  exact ⟨h1, h2, h3, h4, h5, below_drewN h6 k⟩
theorem ordW_store {w wr : World} {b : Nat} {a m : Int} {n : Nat} (h : OrdW w b a m n wr) (n' : Nat) : OrdW w b a m n' (wr.setCell ⟨b, 0, none⟩ (.int .i64 n')) := by
  obtain ⟨h1, h2, h3, h4, h5, h6⟩ := h
  refine ⟨?_, ?_, ?_, ?_, h5, h6.setCell (by simp; omega) _⟩
  · exact (World.cell?_setCell_other _ _ _ _ (by simp <;> omega)).trans h1
  · exact (World.cell?_setCell_other _ _ _ _ (by simp <;> omega)).trans h2
  · exact World.cell?_setCell_same _ _ _ h3
  · exact (World.frozen?_setCell _ _ _ _).trans h4

theorem one_test {a m : Int} {n d : Nat} (hd : IsOrd a m d) : (a ^ n % m != 1 % m) = !decide (d ∣ n) := by
  have h2 := hd.test n
  by_cases h : d ∣ n
  · simp [h, h2.2 h]
  · have : ¬ a ^ n % m = 1 % m := fun h3 => h (h2.1 h3)
    simp [h, this]

set_option maxHeartbeats 1000000 in
set_option maxRecDepth 100000 in
theorem order1_any (p e : Nat) (a m : Int) (n d : Nat) (b : Nat) (w wr : World) (hp : 1 ≤ p) (hp2 : p ≤ 2147483647) (he : e ≤ 2147483648) (hn : n ≤ 2147483647) (ha : 0 ≤ a) (ham : a ≤ 2147483647) (hm : 0 < m) (hm2 : m ≤ 2147483647) (hd : IsOrd a m d) (hW : OrdW w b a m n wr) :
    Calls Tryz.prog 109 #[.int .i64 p, .int .i64 e, .pointer (some ⟨w.heap.size, 0, none⟩), .pointer (some ⟨b, 0, none⟩), .pointer (some ⟨w.heap.size + 1, 0, none⟩)] wr fun x' w' => x' = .returned (.tuple #[]) ∧ OrdW w b a m (strO d p e n) w' := by
  have HD := Lib.hid hd
  have HW0 := Lib.hid hW
  clear hd hW
  go_enter Tryz.func109, Tryz.ntmps109
  go_wp2
  go_loopw [8] (fun i wi => ∃ (k c : Nat), i = .int .i64 k ∧ k ≤ e ∧ c ≤ 2147483647 ∧ Hid (strO d p (e - k) c = strO d p e n) ∧ Hid (OrdW w b a m c wi)) (fun i _ => e - (intOf i).toNat)
  case atStart => exact ⟨0, n, rfl, Nat.zero_le _, hn, rfl, HW0⟩
  case round =>
    obtain ⟨k, c, rfl, hk, hc, HS, HW⟩ := hrel
    by_cases hlt : k < e
    · obtain ⟨g1, g2, g3, g4, g5, g6⟩ := HW.out
      have hcp : c / p ≤ 2147483647 := Nat.le_trans (Nat.div_le_self c p) hc
      have q := fun w => raise_any a (c / p) m w (Nat.le_trans hcp (by decide)) ha ham hm hm2
      have e1 : ((c / p : Nat) : Int) = wrap64 ((c : Int) / p) := by
        have h1 : ((c / p : Nat) : Int) ≤ 2147483647 := Int.ofNat_le.2 hcp
        have h2 : (0 : Int) ≤ ((c / p : Nat) : Int) := Int.natCast_nonneg _
        rw [← Int.natCast_ediv, IntWalk.wrap64_in _ ⟨Int.le_trans (by decide) h2, Int.le_trans h1 (by decide)⟩]
      have hp0 : ¬ p = 0 := by omega
      rw [e1] at q
      have t := one_test (n := c / p) HD.out
      have f1 := Int.emod_nonneg (a ^ (c / p)) (show m ≠ 0 by omega)
      have f2 := Int.emod_lt_of_pos (a ^ (c / p)) hm
      generalize a ^ (c / p) % m = A at *
      have st : strO d p (e - k) c = if d ∣ c / p then strO d p (e - (k + 1)) (c / p) else c := by
        rw [show e - k = (e - (k + 1)) + 1 by omega, strO]
      rw [HS.out] at st
      have E1 := Lib.hid e1
      have Q := Lib.hid q
      have G6 := Lib.hid g6
      clear q g6 e1 HS
      by_cases hdc : d ∣ c / p
      · rw [if_pos hdc] at st
        have ST := Lib.hid st
        have tb : (A != 1 % m) = false := by rw [t]; simp [hdc]
        clear t st hdc
        go_wp2
        go_quiet ((go_at_call 110; first | exact quiet_left (Q.out _) | exact quiet_add_left (Q.out _)))
        go_wp2
        go_roundw
        case rel => exact ⟨k + 1, c / p, by go_num, by omega, hcp, ST.out.symm, by rw [← E1.out]; exact ordW_store (ordW_drewN HW.out _) _⟩
        case measure => simp [intOf]; omega
      · rw [if_neg hdc] at st
        have ST := Lib.hid st
        have tb : (A != 1 % m) = true := by rw [t]; simp [hdc]
        clear t st hdc
        go_wp2
        go_quiet ((go_at_call 110; first | exact quiet_left (Q.out _) | exact quiet_add_left (Q.out _)))
        go_wp2
        go_end0
        exact ⟨rfl, by rw [ST.out]; exact ordW_drewN HW.out _⟩
    · obtain rfl : k = e := by omega
      have e2 := HS.out
      rw [Nat.sub_self, strO] at e2
      have E2 := Lib.hid e2
      clear e2 HS
      go_wp2
      go_end0
      exact ⟨rfl, by rw [← E2.out]; exact HW.out⟩

theorem enters109 (args : Array Value) (w : World) : (callFunc 109 args).run Tryz.prog w = .ok (.enter 109 args) w := enters_of Tryz.func109 (by kernel_rfl) rfl args w

set_option maxHeartbeats 1000000 in
set_option maxRecDepth 100000 in
theorem order_any (a : Int) (M : Nat) (d : Nat) (w : World) (ha : 0 ≤ a) (ham : a ≤ 2147483647) (hM0 : 1 ≤ M) (hM : M ≤ 2147483647) (hd : IsOrd a M d) (hdv : d ∣ (phi M).toNat) :
    Calls Tryz.prog 106 #[.int .i64 a, .int .i64 M] w fun x w' => x = .returned (.int .i64 d) ∧ Below w.heap.size w w' := by
  have cp := fun w => phi_any M w hM0 hM
  have p1 := phi_pos (m := M) (by omega)
  have p2 := phi_le (m := M) (by omega)
  obtain ⟨F, hF⟩ := Int.eq_ofNat_of_zero_le (show 0 ≤ phi M by omega)
  rw [hF] at cp p1 p2 hdv
  rw [Int.toNat_natCast] at hdv
  have hfin := ordF_facs (N := F) (d := d) (by omega) hdv
  have hF0 : 0 < F := by omega
  have hF1 : F ≤ 2147483647 := by omega
  have CP := Lib.hid cp
  have HD := Lib.hid hd
  have HFIN := Lib.hid hfin
  clear cp hd hdv hfin hF p1 p2
  have hmf : ∀ (fn : Fn) (first cap : Array Value) (w : World), (Instr.makeFunc fn first cap).run Tryz.prog w = .ok (.func fn first cap) w := fun _ _ _ _ => rfl
  go_enter Tryz.func106, Tryz.ntmps106
  go_wp2_with (go_at_call 108; refine (CP.out _).mono ?_; rintro x w1 ⟨rfl, hb1⟩)
  have hsz := hb1.size
  simp at hsz
  have k1 : w1.cell? ⟨w.heap.size, 0, none⟩ = some (.int .i64 a) := by
    rw [hb1.cell (p := ⟨w.heap.size, 0, none⟩) (by simp; omega), World.cell?_alloc_past _ _ _ (by simp), World.cell?_alloc_at _ _ _ _ rfl]; rfl
  have k2 : w1.cell? ⟨w.heap.size + 1, 0, none⟩ = some (.int .i64 M) := by
    rw [hb1.cell (p := ⟨w.heap.size + 1, 0, none⟩) (by simp), World.cell?_alloc_at _ _ _ _ (by simp)]; rfl
  have hb0 : Below w.heap.size w w1 := (((Below.refl w.heap.size w).alloc (Nat.le_refl _) _).alloc (by simp) _).trans (hb1.mono (by simp; omega))
  refine (factors_any 109 _ enters109 F _ hF0 (by omega) (fun l wr => Hid (OrdW w w1.heap.size a M (ordF d l F) wr)) ?_ ?_).mono ?_
  · refine ⟨?_, ?_, ?_, World.frozen?_alloc_at _ _ _ _ rfl, by omega, hb0.alloc (by omega) _⟩
    · exact (World.cell?_alloc_past _ _ _ (by omega)).trans k1
    · exact (World.cell?_alloc_past _ _ _ (by omega)).trans k2
    · rw [World.cell?_alloc_at _ _ _ _ rfl]; rfl
  · intro l p e r wr hl hI
    have hm : (p, e) ∈ facs F := by rw [hl]; simp
    obtain ⟨x1, x2, x3, x4, x5, _⟩ := facs_bounds hF0 hm
    have hbd := ordF_bd (d := d) l F
    have c := order1_any p e a M (ordF d l F) d w1.heap.size w wr (by omega) (by omega) (by omega) (by omega) ha ham (by omega) (by omega) HD.out hI.out
    exact c.mono fun x w' ⟨hx, hW⟩ => ⟨hx, by rw [ordF_append]; exact hW⟩
  · rintro x w' ⟨rfl, hI⟩
    obtain ⟨h1, h2, h3, h4, h5, h6⟩ := hI.out
    rw [HFIN.out] at h3
    have H6 := Lib.hid h6
    clear h6 hI hb0 hb1
    go_wp2
    go_ret
    exact ⟨rfl, H6.out⟩

/-- the order and the error, as the document has them -/
noncomputable def ordOf (a m : Int) : Nat := open Classical in if h : ∃ d, IsOrd a m d then h.choose else 0
theorem ordOf_eq {a m : Int} {d : Nat} (h : IsOrd a m d) : ordOf a m = d := by
  have hx : ∃ d, IsOrd a m d := ⟨d, h⟩
  unfold ordOf
  rw [dif_pos hx]
  exact hx.choose_spec.unique h
theorem isOrd_emod {a m : Int} {d : Nat} (h : IsOrd a m d) : IsOrd (a % m) m d :=
  ⟨h.1, fun n => ⟨fun h1 => (h.2 n).1 (((Cong.emod m a).pow n).symm.trans h1), fun h1 => ((Cong.emod m a).pow n).trans ((h.2 n).2 h1)⟩⟩

theorem order_err (a m : Int) (w : World) (h : (invOut a m).2 ≠ 0) :
    Calls Tryz.prog 103 #[.int .i64 a, .int .i64 m] w fun x w' => x = .returned (.tuple #[.int .i64 0, .int .i64 (invOut a m).2]) ∧ Below w.heap.size w w' := by
  have c := fun w => inverse_any a m w
  have ht : ((invOut a m).2 != 0) = true := by rw [bne_iff_ne]; exact h
  generalize (invOut a m).1 = x at *
  generalize (invOut a m).2 = e at *
  have C := Lib.hid c
  clear c h
  go_enter Tryz.func103, Tryz.ntmps103
  go_wp2_with (go_at_call 105; refine (C.out _).mono ?_; rintro x w' ⟨rfl, n, rfl⟩)
  go_ret2
  exact ⟨rfl, below_drewN (Below.refl _ _) _⟩
theorem order_ok (a : Int) (M : Nat) (d : Nat) (w : World) (hM0 : 1 ≤ M) (hM : M ≤ 2147483647) (h : (invOut a M).2 = 0) (hd : IsOrd a M d) (hdv : d ∣ (phi M).toNat) :
    Calls Tryz.prog 103 #[.int .i64 a, .int .i64 M] w fun x w' => x = .returned (.tuple #[.int .i64 d, .int .i64 0]) ∧ Below w.heap.size w w' := by
  have c := fun w => inverse_any a M w
  have b1 := Int.emod_nonneg a (show (M : Int) ≠ 0 by omega)
  have b2 := Int.emod_lt_of_pos a (show (0 : Int) < M by omega)
  have c1 := fun w => residue_any a M w (by omega) (by omega)
  have c2 := fun w => order_any (a % M) M d w b1 (by omega) hM0 hM (isOrd_emod hd) hdv
  rw [h] at c
  generalize (invOut a M).1 = x at *
  generalize a % (M : Int) = r at *
  have C := Lib.hid c
  have C1 := Lib.hid c1
  have C2 := Lib.hid c2
  clear c h c1 c2 hd hdv
  go_enter Tryz.func103, Tryz.ntmps103
  go_wp2_with (first
    | (go_at_call 105; refine (C.out _).mono ?_; rintro x w' ⟨rfl, n, rfl⟩)
    | (go_at_call 69; refine (C1.out _).mono ?_; rintro x w' ⟨rfl, rfl⟩)
    | (go_at_call 106; refine (C2.out _).mono ?_; rintro x w' ⟨rfl, hb⟩))
  go_ret2
  exact ⟨rfl, (below_drewN (Below.refl _ _) _).trans hb⟩
end Go.Proofs.YtedfcemebdlgfaaGreatDoor
