/- The law ArithCrt: its walk. -/
import Derived.Test.YtjmldlbiihaefaaDoorRefG
import Derived.Test.YtjmldlbiihaefaaDoorNumK
namespace Go.Proofs.YtjmldlbiihaefaaDoor
open Go.RowKit HP

theorem crt_nil (w : World) (a : Option Addr) (c : Nat) : Calls Tryd.prog 20 #[.slice a 0 c] w fun x w' => x = .returned (.tuple #[.agg #[.int .i64 0, .int .i64 1], .int .i64 0]) ∧ Below w.heap.size w w' := by
  go_enter Tryd.func20, Tryd.ntmps20
  go_wp2
  refine wp_loop_rounds 1 ?_
  rw [rounds_succ]
  go_wp2
  refine bodyPost_ret (v := .tuple #[.agg #[.int .i64 0, .int .i64 1], .int .i64 0]) (by simp [results, Tryd.results20, go_sem]) rfl ⟨rfl, ?_⟩
  go_grown
theorem rcrt_nil (w : World) (a : Option Addr) (c : Nat) : Calls Tryd.prog 21 #[.slice a 0 c] w fun x w' => x = .returned (.tuple #[.agg #[.int .i64 0, .int .i64 1], .int .i64 0]) ∧ Below w.heap.size w w' := by
  go_enter Tryd.func21, Tryd.ntmps21
  go_wp2
  refine wp_loop_rounds 1 ?_
  rw [rounds_succ]
  go_wp2
  refine bodyPost_ret (v := .tuple #[.agg #[.int .i64 0, .int .i64 1], .int .i64 0]) (by simp [results, Tryd.results21, go_sem]) rfl ⟨rfl, ?_⟩
  go_grown

theorem crt_law_nil (w : World) (a : Option Addr) (c : Nat) (hT : TabW w) (hB : 0 < w.heap.size) :
    Calls Tryd.prog 6 #[.slice a 0 c] w fun x w' => x = .returned (.bool true) ∧ Below w.heap.size w w' := by
  go_enter Tryd.func6, Tryd.ntmps6
  go_wp2_with fail
  refine (awake_any w hT hB).mono ?_
  rintro x w1 ⟨rfl, hb1⟩
  have HB1 := Lib.hid hb1
  clear hb1
  go_wp2_with fail
  refine (crt_nil _ _ _).mono ?_
  rintro x w2 ⟨rfl, hb2⟩
  have HB2 := Lib.hid (HB1.out.trans (hb2.mono HB1.out.size))
  clear hb2
  go_wp2_with fail
  refine (rcrt_nil _ _ _).mono ?_
  rintro x w3 ⟨rfl, hb3⟩
  have hc3 : w3.cell? ⟨w2.heap.size, 0, none⟩ = some (.int .i64 0) := by
    rw [hb3.cell (p := ⟨w2.heap.size, 0, none⟩) (by simp), World.cell?_alloc_at _ _ _ _ rfl]; rfl
  have hc4 : w3.cell? ⟨w2.heap.size, 1, none⟩ = some (.int .i64 1) := by
    rw [hb3.cell (p := ⟨w2.heap.size, 1, none⟩) (by simp), World.cell?_alloc_at _ _ _ _ rfl]; rfl
  have hs3 : w2.heap.size < w3.heap.size := by have := hb3.size; simp at this; omega
  have HB3 := Lib.hid ((HB2.out.alloc HB2.out.size _).trans (hb3.mono (by have := HB2.out.size; simp; omega)))
  clear hb3
  go_wp2
  refine wp_loop_rounds 1 ?_
  rw [rounds_succ]
  go_wp2
  go_ret
  exact ⟨rfl, HB3.out.alloc HB3.out.size _⟩

theorem CgrAt.below {w w' : World} {b off B : Nat} {l : List (Int × Int)} (h : CgrAt w b off l) (hb : Below B w w') (hB : b < B) : CgrAt w' b off l := fun i r m hi =>
  ⟨(hb.cell (p := ⟨b, off + i * 2, none⟩) hB).trans (h i r m hi).1, (hb.cell (p := ⟨b, off + i * 2 + 1, none⟩) hB).trans (h i r m hi).2⟩
theorem CgrAt.alloc {w : World} {b off : Nat} {l : List (Int × Int)} (h : CgrAt w b off l) (hB : b < w.heap.size) (o : Obj) : CgrAt (w.alloc o) b off l := fun i r m hi =>
  ⟨(World.cell?_alloc_past _ _ _ hB).trans (h i r m hi).1, (World.cell?_alloc_past _ _ _ hB).trans (h i r m hi).2⟩

set_option maxHeartbeats 2000000 in
set_option maxRecDepth 100000 in
theorem crt_law (b off len cap : Nat) (l : List (Int × Int)) (hl : l.length = len) (w : World) (hb : b < w.heap.size) (hc : CgrAt w b off l) (hlen : len ≤ 9223372036854775807)
    (hT : TabW w) (hB : 0 < w.heap.size) :
    Calls Tryd.prog 6 #[.slice (some ⟨b, off, none⟩) len cap] w fun x w' => x = .returned (.bool true) ∧ Below w.heap.size w w' := by
  have caw := awake_any w hT hB
  have CAW := Lib.hid caw
  have HC := Lib.hid hc
  clear caw hT hc
  by_cases h20 : len ≤ 20
  · have c1 := fun w (hb : b < w.heap.size) (hc : CgrAt w b off l) => crt_any b off len cap l hl w hb hc hlen
    have c2 := fun w (hb : b < w.heap.size) (hc : CgrAt w b off l) => rcrt_any b off len cap l hl w hb hc hlen
    have hf := fun R M => crt_final (l := l) (R := R) (M := M)
    have he := fun e => crt_err_code (l := l) (c := (0, 1)) (e := e)
    generalize crt (0, 1) l = X at *
    have C1 := Lib.hid c1
    have C2 := Lib.hid c2
    have HF := Lib.hid hf
    have HE := Lib.hid he
    clear c1 c2 hf he
    cases X with
    | error e =>
      have he := HE.out e rfl
      have heb : (e == 0) = false := by rw [beq_eq_false_iff_ne]; omega
      have heb2 : (e != 0) = true := by rw [bne_iff_ne]; omega
      clear HE HF
      simp only [crtVal, crtOut] at C1 C2
      clear he
      go_enter Tryd.func6, Tryd.ntmps6
      go_wp2_with fail
      refine CAW.out.mono ?_
      rintro x w1 ⟨rfl, hb1⟩
      have hs1 := hb1.size
      have HB1 := Lib.hid hb1
      have HC1 := Lib.hid (HC.out.below hb1 hb)
      clear hb1
      go_wp2_with fail
      refine (C1.out w1 (by omega) HC1.out).mono ?_
      rintro x w2 ⟨rfl, hb2⟩
      have hs2 := hb2.size
      have HB2 := Lib.hid (HB1.out.trans (hb2.mono HB1.out.size))
      have HC2 := Lib.hid (HC1.out.below hb2 (by omega))
      clear hb2
      go_wp2_with fail
      refine (C2.out _ (by simp; omega) (HC2.out.alloc (by omega) _)).mono ?_
      rintro x w3 ⟨rfl, hb3⟩
      have hc3 : w3.cell? ⟨w2.heap.size, 0, none⟩ = some (.int .i64 0) := by
        rw [hb3.cell (p := ⟨w2.heap.size, 0, none⟩) (by simp), World.cell?_alloc_at _ _ _ _ rfl]; rfl
      have hc4 : w3.cell? ⟨w2.heap.size, 1, none⟩ = some (.int .i64 0) := by
        rw [hb3.cell (p := ⟨w2.heap.size, 1, none⟩) (by simp), World.cell?_alloc_at _ _ _ _ rfl]; rfl
      have hs3 : w2.heap.size < w3.heap.size := by have := hb3.size; simp at this; omega
      have HB3 := Lib.hid ((HB2.out.alloc HB2.out.size _).trans (hb3.mono (by have := HB2.out.size; simp; omega)))
      have HC3 := Lib.hid ((HC2.out.alloc (by omega) (.cells #[.int .i64 0, .int .i64 0] 30)).below hb3 (by simp; omega))
      have hbw3 : b < w3.heap.size := by omega
      clear hb3
      go_wp2
      refine wp_loop_rounds 1 ?_
      rw [rounds_succ]
      by_cases hl0 : 0 < len
      · go_wp2
        go_ret
        exact ⟨rfl, HB3.out.alloc HB3.out.size _⟩
      · obtain rfl : len = 0 := by omega
        go_wp2
        go_ret
        exact ⟨rfl, HB3.out.alloc HB3.out.size _⟩
    | ok c =>
      obtain ⟨R, M⟩ := c
      obtain ⟨⟨hR0, hRM⟩, hM, hall⟩ := HF.out R M rfl
      have HALL := Lib.hid hall
      clear HE HF hall
      simp only [crtVal, crtOut] at C1 C2
      go_enter Tryd.func6, Tryd.ntmps6
      go_wp2_with fail
      refine CAW.out.mono ?_
      rintro x w1 ⟨rfl, hb1⟩
      have hs1 := hb1.size
      have HB1 := Lib.hid hb1
      have HC1 := Lib.hid (HC.out.below hb1 hb)
      clear hb1
      go_wp2_with fail
      refine (C1.out w1 (by omega) HC1.out).mono ?_
      rintro x w2 ⟨rfl, hb2⟩
      have hs2 := hb2.size
      have HB2 := Lib.hid (HB1.out.trans (hb2.mono HB1.out.size))
      have HC2 := Lib.hid (HC1.out.below hb2 (by omega))
      clear hb2
      go_wp2_with fail
      refine (C2.out _ (by simp; omega) (HC2.out.alloc (by omega) _)).mono ?_
      rintro x w3 ⟨rfl, hb3⟩
      have hc3 : w3.cell? ⟨w2.heap.size, 0, none⟩ = some (.int .i64 R) := by
        rw [hb3.cell (p := ⟨w2.heap.size, 0, none⟩) (by simp), World.cell?_alloc_at _ _ _ _ rfl]; rfl
      have hc4 : w3.cell? ⟨w2.heap.size, 1, none⟩ = some (.int .i64 M) := by
        rw [hb3.cell (p := ⟨w2.heap.size, 1, none⟩) (by simp), World.cell?_alloc_at _ _ _ _ rfl]; rfl
      have hs3 : w2.heap.size < w3.heap.size := by have := hb3.size; simp at this; omega
      have HB3 := Lib.hid ((HB2.out.alloc HB2.out.size _).trans (hb3.mono (by have := HB2.out.size; simp; omega)))
      have HC3 := Lib.hid ((HC2.out.alloc (by omega) (.cells #[.int .i64 R, .int .i64 M] 30)).below hb3 (by simp; omega))
      have hbw3 : b < w3.heap.size := by omega
      clear hb3
      go_wp2
      go_loopw [7] (fun i wr => ∃ (k n : Nat), i = .int .i64 k ∧ k ≤ len ∧ wr = (w3.alloc (.cells #[.int .i64 R, .int .i64 M] 30)).drewN n) (fun i _ => len - (intOf i).toNat)
      case atStart => exact ⟨0, 0, rfl, Nat.zero_le _, rfl⟩
      case round =>
        obtain ⟨k, n, rfl, hk, rfl⟩ := hrel
        by_cases hlt : k < len
        · obtain ⟨r, m, hrm⟩ : ∃ r m, l[k]? = some (r, m) := ⟨(l[k]'(by omega)).1, (l[k]'(by omega)).2, by rw [List.getElem?_eq_getElem (by omega)]⟩
          obtain ⟨g1, g2⟩ := HC3.out k r m hrm
          obtain ⟨m1, m2, m3, m4⟩ := HALL.out k r m hrm
          have t1 : M.tmod m = M % m := Int.tmod_eq_emod_of_nonneg (by omega)
          have t2 : R.tmod m = R % m := Int.tmod_eq_emod_of_nonneg (by omega)
          have e1 : (M % m != 0) = false := by rw [m3]; rfl
          have e2 : (r % m != R % m) = false := by rw [m4]; simp
          have cm := fun w => rmod_any r m w (by omega) (by omega)
          have CM := Lib.hid cm
          have hlt' : (k : Int) < (len : Int) := by omega
          clear hrm m3 m4 cm
          go_wp2
          go_quiet ((go_at_call 22; first | exact quiet_add_left (CM.out _) | exact quiet_left (CM.out _)))
          go_wp2
          go_roundw
          case rel => exact ⟨k + 1, n + nq, by go_num, by omega, by simp⟩
          case measure => simp [intOf]; omega
        · obtain rfl : k = len := by omega
          go_wp2
          go_ret
          exact ⟨rfl, below_drewN (HB3.out.alloc HB3.out.size _) _⟩
  · have h20' : 20 < len := by omega
    go_enter Tryd.func6, Tryd.ntmps6
    go_wp2_with fail
    refine CAW.out.mono ?_
    rintro x w1 ⟨rfl, hb1⟩
    have HB1 := Lib.hid hb1
    clear hb1
    go_wp2
    go_ret
    exact ⟨rfl, HB1.out⟩
end Go.Proofs.YtjmldlbiihaefaaDoor
