/- The law ArithMultiplicative walked. -/
import Derived.Test.YtjmldlbiihaefaaDoorNumW
import Derived.Test.YtjmldlbiihaefaaDoorSigB
import Derived.Test.YtjmldlbiihaefaaDoorAriG
import Derived.Test.YtjmldlbiihaefaaDoorAriT
import Derived.Test.YtjmldlbiihaefaaDoorRefA
import Derived.Test.YtjmldlbiihaefaaDoorRbgF
import Derived.Test.YtjmldlbiihaefaaDoorBigE
namespace Go.Proofs.YtjmldlbiihaefaaDoor
open Go.RowKit HP

theorem powSum_sumG (k : Nat) : ∀ l : List Nat, ((powSum k l : Nat) : Int) = sumG (fun d => (d : Int) ^ k) l
  | [] => rfl
  | d :: l => by rw [powSum, sumG, Int.natCast_add, powSum_sumG k l, Int.natCast_pow]
theorem powSum_mul (k : Nat) {m n : Nat} (hm : 0 < m) (hn : 0 < n) (hc : Nat.Coprime m n) : powSum k (dvs (m * n)) = powSum k (dvs m) * powSum k (dvs n) := by
  have h := sigma_coprime k hm hn hc
  rw [← powSum_sumG, ← powSum_sumG, ← powSum_sumG] at h
  exact_mod_cast h
theorem powSum_mem {k d : Nat} : ∀ {l : List Nat}, d ∈ l → d ^ k ≤ powSum k l
  | [], h => by cases h
  | x :: l, h => by
    rw [powSum]
    rcases List.mem_cons.1 h with rfl | h
    · omega
    · have := powSum_mem (k := k) h; omega
theorem powSum_pos (k : Nat) {n : Nat} (hn : 0 < n) : powSum k (dvs n) ≠ 0 := by
  have h1 := powSum_mem (k := k) ((dvs_mem hn).2 (Nat.dvd_refl n))
  have : 0 < n ^ k := Nat.pow_pos hn
  omega
theorem sumG_le {G : Nat → Int} {a b : Int} (ha : a ≤ 0) (hb : 0 ≤ b) : ∀ l : List Nat, (∀ x ∈ l, a ≤ G x ∧ G x ≤ b) → a * l.length ≤ sumG G l ∧ sumG G l ≤ b * l.length
  | [], _ => by simp [sumG]
  | d :: l, h => by
    have h1 := h d (List.mem_cons_self ..)
    have h2 := sumG_le ha hb l fun x hx => h x (List.mem_cons_of_mem _ hx)
    rw [sumG, List.length_cons, Int.natCast_add, Int.mul_add, Int.mul_add]
    simp only [Int.natCast_one, Int.mul_one]
    omega
theorem s6_next {W W' : World} {A B C : Nat} {a b c d e f : Value} (hA : A < W.heap.size) (hB : B < W.heap.size) (hC : C < W.heap.size) (h : W.cell? ⟨A, 0, none⟩ = some a ∧ W.cell? ⟨A, 1, none⟩ = some b ∧ W.cell? ⟨B, 0, none⟩ = some c ∧ W.cell? ⟨B, 1, none⟩ = some d ∧ W.cell? ⟨C, 0, none⟩ = some e ∧ W.cell? ⟨C, 1, none⟩ = some f) (hb : Below W.heap.size W W') :
    W'.cell? ⟨A, 0, none⟩ = some a ∧ W'.cell? ⟨A, 1, none⟩ = some b ∧ W'.cell? ⟨B, 0, none⟩ = some c ∧ W'.cell? ⟨B, 1, none⟩ = some d ∧ W'.cell? ⟨C, 0, none⟩ = some e ∧ W'.cell? ⟨C, 1, none⟩ = some f :=
  ⟨(hb.cell (p := ⟨A, 0, none⟩) hA).trans h.1, (hb.cell (p := ⟨A, 1, none⟩) hA).trans h.2.1, (hb.cell (p := ⟨B, 0, none⟩) hB).trans h.2.2.1, (hb.cell (p := ⟨B, 1, none⟩) hB).trans h.2.2.2.1, (hb.cell (p := ⟨C, 0, none⟩) hC).trans h.2.2.2.2.1, (hb.cell (p := ⟨C, 1, none⟩) hC).trans h.2.2.2.2.2⟩
theorem intD_next {W W' : World} {g : Nat} {D : List Int} (h : g < W.heap.size ∧ ∀ (i : Nat) (x : Int), D[i]? = some x → W.cell? ⟨g, i, none⟩ = some (.int .i64 x)) (hb : Below W.heap.size W W') : g < W'.heap.size ∧ ∀ (i : Nat) (x : Int), D[i]? = some x → W'.cell? ⟨g, i, none⟩ = some (.int .i64 x) :=
  ⟨Nat.lt_of_lt_of_le h.1 hb.size, fun i x hx => (hb.cell (p := ⟨g, i, none⟩) h.1).trans (h.2 i x hx)⟩
/-- the three variables, and what has not turned -/
def M3 (w : World) (V1 V2 V3 S1 S2 S3 : Nat) (wr : World) : Prop := VarS wr V1 S1 ∧ VarS wr V2 S2 ∧ VarS wr V3 S3 ∧ Below w.heap.size w wr
theorem m3_next {w wr w1 : World} {V1 V2 V3 S1 S2 S3 : Nat} (h : M3 w V1 V2 V3 S1 S2 S3 wr) (hb : Below wr.heap.size wr w1) : M3 w V1 V2 V3 S1 S2 S3 w1 :=
  ⟨varS_next h.1 hb, varS_next h.2.1 hb, varS_next h.2.2.1 hb, h.2.2.2.trans (hb.mono h.2.2.2.size)⟩

set_option maxHeartbeats 4000000 in
set_option maxRecDepth 100000 in
theorem mult_early (m n : Int) (w : World) (hT : TabW w) (hB : 0 < w.heap.size) (_ : -9223372036854775808 ≤ m) (_ : m ≤ 9223372036854775807) (_ : -9223372036854775808 ≤ n) (_ : n ≤ 9223372036854775807)
    (h : m < 1 ∨ 10000 < m ∨ n < 1 ∨ 10000 < n ∨ gcdW m n ≠ 1) :
    Calls Tryd.prog 14 #[.int .i64 m, .int .i64 n] w fun x w' => x = .returned (.bool true) ∧ Below w.heap.size w w' := by
  have CAW := Lib.hid (awake_any w hT hB)
  have CG := Lib.hid fun w => rgcd_any m n w (by omega) (by omega) (by omega) (by omega)
  have hk : decide (m < 1) = true ∨ (decide (m < 1) = false ∧ decide (10000 < m) = true) ∨ (decide (m < 1) = false ∧ decide (10000 < m) = false ∧ decide (n < 1) = true) ∨ (decide (m < 1) = false ∧ decide (10000 < m) = false ∧ decide (n < 1) = false ∧ decide (10000 < n) = true) ∨ (decide (m < 1) = false ∧ decide (10000 < m) = false ∧ decide (n < 1) = false ∧ decide (10000 < n) = false ∧ (gcdW m n != 1) = true) := by
    by_cases h1 : m < 1
    · exact .inl (decide_eq_true h1)
    by_cases h2 : 10000 < m
    · exact .inr (.inl ⟨decide_eq_false h1, decide_eq_true h2⟩)
    by_cases h3 : n < 1
    · exact .inr (.inr (.inl ⟨decide_eq_false h1, decide_eq_false h2, decide_eq_true h3⟩))
    by_cases h4 : 10000 < n
    · exact .inr (.inr (.inr (.inl ⟨decide_eq_false h1, decide_eq_false h2, decide_eq_false h3, decide_eq_true h4⟩)))
    · refine .inr (.inr (.inr (.inr ⟨decide_eq_false h1, decide_eq_false h2, decide_eq_false h3, decide_eq_false h4, ?_⟩)))
      have : gcdW m n ≠ 1 := by omega
      simpa using this
  generalize gcdW m n = g at *
  clear hT h
  rcases hk with t1 | ⟨t1, t2⟩ | ⟨t1, t2, t3⟩ | ⟨t1, t2, t3, t4⟩ | ⟨t1, t2, t3, t4, t5⟩
  all_goals
    go_enter Tryd.func14, Tryd.ntmps14
    go_wp2_with fail
    refine CAW.out.mono ?_
    rintro x w1 ⟨rfl, hb1⟩
    have HB1 := Lib.hid hb1
    clear hb1
    go_wp2_with (go_at_call 18; refine (CG.out _).mono ?_; rintro x w' ⟨rfl, rfl⟩)
    go_ret
    exact ⟨rfl, HB1.out⟩

set_option maxHeartbeats 8000000 in
set_option maxRecDepth 100000 in
theorem mult_main (M N : Nat) (w : World) (hT : TabW w) (hB : 0 < w.heap.size) (hM0 : 1 ≤ M) (hM : M ≤ 10000) (hN0 : 1 ≤ N) (hN : N ≤ 10000) (hc : Nat.Coprime M N) :
    Calls Tryd.prog 14 #[.int .i64 M, .int .i64 N] w fun x w' => x = .returned (.bool true) ∧ Below w.heap.size w w' := by
  have CAW := Lib.hid (awake_any w hT hB)
  have hMN : M * N ≤ 10000 * 10000 := Nat.mul_le_mul hM hN
  have hMN0 : 1 ≤ M * N := Nat.mul_pos hM0 hN0
  have cg := fun w => rgcd_any (M : Int) (N : Int) w (by omega) (by omega) (by omega) (by omega)
  have hg : gcdW (M : Int) (N : Int) = 1 := by
    have h1 : Int.gcd (M : Int) (N : Int) = 1 := by rw [Int.gcd_natCast_natCast]; exact hc
    unfold gcdW
    rw [h1]
    rfl
  rw [hg] at cg
  have c1 := fun w => phi_any M w hM0 (by omega)
  have c2 := fun w => phi_any N w hN0 (by omega)
  have c3 := fun w => phi_any (M * N) w hMN0 (by omega)
  have c4 := fun w => psi_any M w hM0 (by omega)
  have c5 := fun w => psi_any N w hN0 (by omega)
  have c6 := fun w => psi_any (M * N) w hMN0 (by omega)
  have c7 := fun w => sigma_any 3 M w (by omega) hM0 (by omega)
  have c8 := fun w => sigma_any 3 N w (by omega) hN0 (by omega)
  have c9 := fun w => sigma_any 3 (M * N) w (by omega) hMN0 (by omega)
  have c10 := fun w => divisors_any M w hM0 (by omega)
  rw [phi_coprime hM0 hN0 hc, Int.natCast_mul] at c3
  rw [psi_coprime hM0 hN0 hc, Int.natCast_mul] at c6
  rw [Int.natCast_mul] at c9
  have hS1 := powSum_pos 3 hM0
  have hS2 := powSum_pos 3 hN0
  have hS3 := powSum_pos 3 hMN0
  have hS12 := powSum_mul 3 hM0 hN0 hc
  have hp1 := powSum_small (k := 3) hM0 (by omega) (by omega)
  have hp2 := powSum_small (k := 3) hN0 (by omega) (by omega)
  have hp3 := powSum_small (k := 3) hMN0 (by omega) (by omega)
  have hphM := phi_prefix hM0 (l := facs M) (r := []) (by simp)
  have hphN := phi_prefix hN0 (l := facs N) (r := []) (by simp)
  have hpsM := psi_prefix hM0 (l := facs M) (r := []) (by simp)
  have hpsN := psi_prefix hN0 (l := facs N) (r := []) (by simp)
  have hMM : (M : Int) * M ≤ 10000 * 10000 := Int.mul_le_mul (by omega) (by omega) (by omega) (by omega)
  have hNN : (N : Int) * N ≤ 10000 * 10000 := Int.mul_le_mul (by omega) (by omega) (by omega) (by omega)
  change 0 ≤ phi M ∧ phi M ≤ (M : Int) at hphM
  change 0 ≤ phi N ∧ phi N ≤ (N : Int) at hphN
  change 0 ≤ psi M ∧ psi M ≤ (M : Int) * M at hpsM
  change 0 ≤ psi N ∧ psi N ≤ (N : Int) * N at hpsN
  have hmn1 : (M : Int) * N ≤ 10000 * 10000 := Int.mul_le_mul (by omega) (by omega) (by omega) (by omega)
  have hmn0 : 0 ≤ (M : Int) * N := Int.mul_nonneg (by omega) (by omega)
  have hD : ∀ (i d : Nat), (dvs M)[i]? = some d → 1 ≤ d ∧ d ≤ 10000 := fun i d h => by
    have h1 := (dvs_mem hM0).1 (List.mem_of_getElem? h)
    have h2 := Nat.le_of_dvd (by omega) h1
    have h3 := Nat.pos_of_dvd_of_pos h1 (by omega)
    omega
  have hDl : (dvs M).length ≤ 10001 := by
    unfold dvs
    exact Nat.le_trans (List.length_filter_le _ _) (by simp; omega)
  have hbs : ∀ i, (0 ≤ sumG phi ((dvs M).take i) ∧ sumG phi ((dvs M).take i) ≤ 100010000) ∧ -10001 ≤ sumG mob ((dvs M).take i) ∧ sumG mob ((dvs M).take i) ≤ 10001 := fun i => by
    have hx : ∀ x ∈ (dvs M).take i, 1 ≤ x ∧ x ≤ 10000 := fun x hx => by
      obtain ⟨j, hj⟩ := List.mem_iff_getElem?.1 (List.mem_of_mem_take hx)
      exact hD j x hj
    have hl : ((dvs M).take i).length ≤ 10001 := by rw [List.length_take]; omega
    have h1 := sumG_le (G := phi) (a := 0) (b := 10000) (by omega) (by omega) ((dvs M).take i) fun x h => by
      have h2 := phi_prefix (hx x h).1 (l := facs x) (r := []) (by simp)
      change 0 ≤ phi x ∧ phi x ≤ (x : Int) at h2
      have := (hx x h).2
      omega
    have h3 := sumG_le (G := mob) (a := -1) (b := 1) (by omega) (by omega) ((dvs M).take i) fun x _ => by
      have : Tri (mob x) := mob_tri (facs x)
      unfold Tri at this
      omega
    omega
  have hsp := sum_phi hM0
  have hsm := sum_mob hM0
  have hDpos : 1 ≤ (dvs M).length := List.length_pos_of_mem ((dvs_mem hM0).2 (Nat.dvd_refl M))
  generalize hdd : dvs M = D at *
  generalize powSum 3 D = S1 at *
  generalize powSum 3 (dvs N) = S2 at *
  generalize powSum 3 (dvs (M * N)) = S3 at *
  generalize phi M = a at *
  generalize phi N = b at *
  generalize psi M = d at *
  generalize psi N = f at *
  have hab1 : a * b ≤ 10000 * 10000 := Int.mul_le_mul (by omega) (by omega) (by omega) (by omega)
  have hab0 : 0 ≤ a * b := Int.mul_nonneg (by omega) (by omega)
  have hdf1 : d * f ≤ 100000000 * 100000000 := Int.mul_le_mul (by omega) (by omega) (by omega) (by omega)
  have hdf0 : 0 ≤ d * f := Int.mul_nonneg (by omega) (by omega)
  have tab : (a * b == a * b) = true := beq_self_eq_true _
  have tdf : (d * f == d * f) = true := beq_self_eq_true _
  have CG := Lib.hid cg
  have C1 := Lib.hid c1
  have C2 := Lib.hid c2
  have C3 := Lib.hid c3
  have C4 := Lib.hid c4
  have C5 := Lib.hid c5
  have C6 := Lib.hid c6
  have C7 := Lib.hid c7
  have C8 := Lib.hid c8
  have C9 := Lib.hid c9
  have C10 := Lib.hid c10
  have HD := Lib.hid hD
  have HBS := Lib.hid hbs
  have HSP := Lib.hid hsp
  have HSM := Lib.hid hsm
  have HS12 := Lib.hid hS12
  have HP1 := Lib.hid hp1
  have HP2 := Lib.hid hp2
  have HP3 := Lib.hid hp3
  have t1 : decide ((M : Int) < 1) = false := decide_eq_false (by omega)
  have t2 : decide ((10000 : Int) < (M : Int)) = false := decide_eq_false (by omega)
  have t2' : decide (10000 < M) = false := decide_eq_false (by omega)
  have t3 : decide ((N : Int) < 1) = false := decide_eq_false (by omega)
  have t4 : decide ((10000 : Int) < (N : Int)) = false := decide_eq_false (by omega)
  have t4' : decide (10000 < N) = false := decide_eq_false (by omega)
  clear hT cg c1 c2 c3 c4 c5 c6 c7 c8 c9 c10 hD hbs hsp hsm hS12 hp1 hp2 hp3 hphM hphN hpsM hpsN hMM hNN hg hdd hc hMN
  go_enter Tryd.func14, Tryd.ntmps14
  go_wp2_with fail
  refine CAW.out.mono ?_
  rintro x w1 ⟨rfl, hb1⟩
  have HB1 := Lib.hid hb1
  clear hb1
  go_wp2_with (go_at_call 18; refine (CG.out _).mono ?_; rintro x w' ⟨rfl, rfl⟩)

  refine (C1.out _).mono ?_
  rintro x w2 ⟨rfl, hb2⟩
  have HB2 := Lib.hid (HB1.out.trans (hb2.mono HB1.out.size))
  clear hb2
  go_wp2_with fail
  refine (C2.out _).mono ?_
  rintro x w3 ⟨rfl, hb3⟩
  have HB3 := Lib.hid (HB2.out.trans (hb3.mono HB2.out.size))
  clear hb3
  go_wp2_with fail
  refine (C3.out _).mono ?_
  rintro x w4 ⟨rfl, hb4⟩
  have HB4 := Lib.hid (HB3.out.trans (hb4.mono HB3.out.size))
  clear hb4
  go_wp2_with fail
  refine (C4.out _).mono ?_
  rintro x w5 ⟨rfl, hb5⟩
  have HB5 := Lib.hid (HB4.out.trans (hb5.mono HB4.out.size))
  clear hb5
  go_wp2_with fail
  refine (C5.out _).mono ?_
  rintro x w6 ⟨rfl, hb6⟩
  have HB6 := Lib.hid (HB5.out.trans (hb6.mono HB5.out.size))
  clear hb6
  go_wp2_with fail
  refine (C6.out _).mono ?_
  rintro x w7 ⟨rfl, hb7⟩
  have HB7 := Lib.hid (HB6.out.trans (hb7.mono HB6.out.size))
  clear hb7
  go_wp2_with fail
  refine (C7.out _).mono ?_
  rintro x w8 ⟨r1, rfl, hr1, hb8⟩
  obtain ⟨g1, n1, c1, rfl⟩ := natAt_slice hr1 hS1
  have hb8x := below_res w8 (.cells #[.bool false, .slice (some ⟨g1, 0, none⟩) n1 c1] 69)
  have HB8x := Lib.hid ((HB7.out.trans (hb8.mono HB7.out.size)).trans (hb8x.mono (by have := HB7.out.size; have := hb8.size; omega)))
  have HV1 := Lib.hid (varS_made w8 69 hr1)
  clear hb8 hb8x hr1
  go_wp2_with fail
  refine (C8.out _).mono ?_
  rintro x w9 ⟨r2, rfl, hr2, hb9⟩
  obtain ⟨g2, n2, c2, rfl⟩ := natAt_slice hr2 hS2
  have hb9x := below_res w9 (.cells #[.bool false, .slice (some ⟨g2, 0, none⟩) n2 c2] 69)
  have HB9x := Lib.hid ((HB8x.out.trans (hb9.mono HB8x.out.size)).trans (hb9x.mono (by have := HB8x.out.size; have := hb9.size; omega)))
  have HV1 := Lib.hid (varS_next (varS_next HV1.out hb9) hb9x)
  have HV2 := Lib.hid (varS_made w9 69 hr2)
  clear hb9 hb9x hr2
  go_wp2_with fail
  refine (C9.out _).mono ?_
  rintro x w10 ⟨r3, rfl, hr3, hb10⟩
  obtain ⟨g3, n3, c3, rfl⟩ := natAt_slice hr3 hS3
  have hb10x := below_res w10 (.cells #[.bool false, .slice (some ⟨g3, 0, none⟩) n3 c3] 69)
  have HB10x := Lib.hid ((HB9x.out.trans (hb10.mono HB9x.out.size)).trans (hb10x.mono (by have := HB9x.out.size; have := hb10.size; omega)))
  have HV1 := Lib.hid (varS_next (varS_next HV1.out hb10) hb10x)
  have HV2 := Lib.hid (varS_next (varS_next HV2.out hb10) hb10x)
  have HV3 := Lib.hid (varS_made w10 69 hr3)
  clear hb10 hb10x hr3
  go_wp2_with fail
  refine (C10.out _).mono ?_
  rintro x w11 ⟨v, rfl, hv, hb11⟩
  have HM3 := Lib.hid (show M3 w w8.heap.size w9.heap.size w10.heap.size S1 S2 S3 w11 from ⟨varS_next HV1.out hb11, varS_next HV2.out hb11, varS_next HV3.out hb11, HB10x.out.trans (hb11.mono HB10x.out.size)⟩)
  clear hb11 HV1 HV2 HV3 HB1 HB2 HB3 HB4 HB5 HB6 HB7 HB8x HB9x HB10x CAW CG C1 C2 C3 C4 C5 C6 C7 C8 C9 C10
  rcases hv with ⟨rfl, h⟩ | ⟨g, cap, rfl, hg1, hg2, _, hg4, hcells⟩
  · have : D = [] := by unfold intL at h; exact List.map_eq_nil_iff.1 h
    rw [this] at hDpos
    simp at hDpos
  have HC := Lib.hid (And.intro hg4 hcells)
  clear hcells hg4
  rw [intL_len] at *
  generalize w8.heap.size = V1 at *
  generalize w9.heap.size = V2 at *
  generalize w10.heap.size = V3 at *
  go_wp2_with fail
  go_loopw [25, 26, 27] (fun x25 x26 x27 wr => ∃ (i : Nat) (P U : Int), x25 = .int .i64 P ∧ x26 = .int .i64 U ∧ x27 = .int .i64 i ∧ i ≤ D.length ∧ Hid (P = sumG phi (D.take i)) ∧ Hid (U = sumG mob (D.take i)) ∧ Hid (M3 w V1 V2 V3 S1 S2 S3 wr) ∧ Hid (g < wr.heap.size ∧ ∀ (i : Nat) (x : Int), (intL D)[i]? = some x → wr.cell? ⟨g, i, none⟩ = some (.int .i64 x))) (fun _ _ y _ => D.length - (intOf y).toNat)
  case atStart => exact ⟨0, 0, 0, rfl, rfl, rfl, Nat.zero_le _, rfl, rfl, HM3.out, HC.out⟩
  case round =>
    obtain ⟨i, P, U, rfl, rfl, rfl, hi, HP, HU, HMW, HDW⟩ := hrel
    by_cases hin : i < D.length
    · obtain ⟨e, he⟩ : ∃ e, D[i]? = some e := ⟨D[i]'hin, List.getElem?_eq_getElem hin⟩
      obtain ⟨e1, e2⟩ := HD.out i e he
      have hcell := HDW.out.2 i e (intL_at he)
      have np := sumG_next phi he
      have nu := sumG_next mob he
      have b1 := HBS.out i
      have b2 := HBS.out (i + 1)
      rw [np, nu, ← HP.out, ← HU.out] at b2
      rw [← HP.out, ← HU.out] at b1
      rw [← HP.out] at np
      rw [← HU.out] at nu
      have cp := fun w => phi_any e w e1 (by omega)
      have cu := fun w => mob_any e w e1 (by omega)
      have hq := phi_prefix e1 (l := facs e) (r := []) (by simp)
      have hr : Tri (mob e) := mob_tri (facs e)
      change 0 ≤ phi e ∧ phi e ≤ (e : Int) at hq
      have hr2 : -1 ≤ mob e ∧ mob e ≤ 1 := by unfold Tri at hr; omega
      generalize phi e = pe at *
      generalize mob e = ue at *
      have CP := Lib.hid cp
      have CU := Lib.hid cu
      have NP := Lib.hid np
      have NU := Lib.hid nu
      obtain ⟨⟨x1, x2⟩, x3, x4⟩ := b1
      obtain ⟨⟨y1, y2⟩, y3, y4⟩ := b2
      obtain ⟨z1, z2⟩ := hq
      obtain ⟨z3, z4⟩ := hr2
      have HCELL := Lib.hid hcell
      clear he cp cu np nu hr
      go_wp2_with fail
      refine (CP.out _).mono ?_
      rintro x w12 ⟨rfl, hb12⟩
      have HM12 := Lib.hid (m3_next HMW.out hb12)
      have HD12 := Lib.hid (intD_next HDW.out hb12)
      have hcell2 := (hb12.cell (p := ⟨g, i, none⟩) HDW.out.1).trans HCELL.out
      clear hb12 hcell
      go_wp2_with fail
      refine (CU.out _).mono ?_
      rintro x w13 ⟨rfl, hb13⟩
      have HM13 := Lib.hid (m3_next HM12.out hb13)
      have HD13 := Lib.hid (intD_next HD12.out hb13)
      clear hb13 hcell2
      go_wp2_with fail
      go_roundw
      case rel => exact ⟨i + 1, _, _, rfl, rfl, by go_num, by omega, NP.out.symm, NU.out.symm, HM13.out, HD13.out⟩
      case measure => simp [intOf]; omega
    · obtain rfl : i = D.length := by omega
      have e1 := HP.out
      have e2 := HU.out
      rw [List.take_length, HSP.out] at e1
      rw [List.take_length, HSM.out] at e2
      have hz : (S3 : Int) = (S1 : Int) * (S2 : Int) := by rw [HS12.out, Int.natCast_mul]
      have hx1 : (S1 : Int).natAbs < W32 ^ 70 := by rw [Int.natAbs_natCast]; exact HP1.out
      have hx2 : (S2 : Int).natAbs < W32 ^ 70 := by rw [Int.natAbs_natCast]; exact HP2.out
      have hx3 : ((S1 : Int) * (S2 : Int)).natAbs < W32 ^ 1000000 := by
        rw [← hz, Int.natAbs_natCast]
        exact w32_big HP3.out
      have HZ := Lib.hid hz
      have HX1 := Lib.hid hx1
      have HX2 := Lib.hid hx2
      have HX3 := Lib.hid hx3
      obtain ⟨⟨⟨k1, m1, q1, a1, a2, a3⟩, _, _, l1⟩, ⟨⟨k2, m2, q2, b1, b2, b3⟩, _, _, l2⟩, ⟨⟨k3, m3, q3, d1, d2, d3⟩, _, _, l3⟩, hbw⟩ := HMW.out
      have hdr : Below wr.heap.size wr wr.drew := below_drewN (Below.refl wr.heap.size wr) 1
      have hS0 : wr.drew.cell? ⟨V1, 0, none⟩ = some (.bool false) ∧ wr.drew.cell? ⟨V1, 1, none⟩ = some (.slice (some ⟨k1, 0, none⟩) m1 q1) ∧ wr.drew.cell? ⟨V2, 0, none⟩ = some (.bool false) ∧ wr.drew.cell? ⟨V2, 1, none⟩ = some (.slice (some ⟨k2, 0, none⟩) m2 q2) ∧ wr.drew.cell? ⟨V3, 0, none⟩ = some (.bool false) ∧ wr.drew.cell? ⟨V3, 1, none⟩ = some (.slice (some ⟨k3, 0, none⟩) m3 q3) := ⟨a1, a2, b1, b2, d1, d2⟩
      have HN1 := Lib.hid (a3.below hdr (Nat.le_refl _))
      have HN2 := Lib.hid (b3.below hdr (Nat.le_refl _))
      have HN3 := Lib.hid (d3.below hdr (Nat.le_refl _))
      have HBW := Lib.hid (show Below w.heap.size w wr.drew from below_drewN hbw 1)
      have HL := Lib.hid (show V1 < wr.drew.heap.size ∧ V2 < wr.drew.heap.size ∧ V3 < wr.drew.heap.size from ⟨l1, l2, l3⟩)
      have HS0 := Lib.hid hS0
      have tMM : ((M : Int) != (M : Int)) = false := by simp
      have hcase : (U = 1 ∧ ((M : Int) == 1) = true ∧ decide ((1 : Int) < (M : Int)) = false ∧ decide (1 < M) = false) ∨ (U = 0 ∧ ((M : Int) == 1) = false ∧ decide ((1 : Int) < (M : Int)) = true ∧ decide (1 < M) = true) := by
        rw [e2]
        by_cases hM1 : M = 1
        · left; rw [if_pos hM1]; subst hM1; exact ⟨rfl, rfl, rfl, rfl⟩
        · right; rw [if_neg hM1]; exact ⟨rfl, by rw [beq_eq_false_iff_ne]; omega, decide_eq_true (by omega), decide_eq_true (by omega)⟩
      clear hz hx1 hx2 hx3 a1 a2 a3 b1 b2 b3 d1 d2 d3 l1 l2 l3 hbw hdr e2 HP HU HMW HDW hS0
      subst e1
      rcases hcase with ⟨rfl, u1, u2, u3⟩ | ⟨rfl, u1, u2, u3⟩
      all_goals
        go_wp2_with fail
        have hS0 := HS0.out
        have wab : IntKind.i64.wrap (a * b) = a * b := IntWalk.i64_in _ (by omega)
        have wdf : IntKind.i64.wrap (d * f) = d * f := IntWalk.i64_in _ (by omega)
        go_region_held3 (fun W => W.cell? ⟨V1, 0, none⟩ = some (.bool false) ∧ W.cell? ⟨V1, 1, none⟩ = some (.slice (some ⟨k1, 0, none⟩) m1 q1) ∧ W.cell? ⟨V2, 0, none⟩ = some (.bool false) ∧ W.cell? ⟨V2, 1, none⟩ = some (.slice (some ⟨k2, 0, none⟩) m2 q2) ∧ W.cell? ⟨V3, 0, none⟩ = some (.bool false) ∧ W.cell? ⟨V3, 1, none⟩ = some (.slice (some ⟨k3, 0, none⟩) m3 q3)) (first | assumption | go_keep)
          (first
            | (go_at_call 55; (with_reducible refine (mul_any _ _ (S1 : Int) (S2 : Int) 70 _ (intV_nat HN1.out) (intV_nat HN2.out) HX1.out HX2.out (by omega)).mono ?_); rintro _ w20 ⟨val, rfl, hval, hb20⟩; have hs20 := s6_next HL.out.1 HL.out.2.1 HL.out.2.2 hS0 hb20; have HB20 := Lib.hid (HBW.out.trans (hb20.mono HBW.out.size)); have HN20 := Lib.hid (HN3.out.below hb20 (Nat.le_refl _)); have HV20 := Lib.hid hval; have HL20 := Lib.hid (show V1 < w20.heap.size ∧ V2 < w20.heap.size ∧ V3 < w20.heap.size from ⟨Nat.lt_of_lt_of_le HL.out.1 hb20.size, Nat.lt_of_lt_of_le HL.out.2.1 hb20.size, Nat.lt_of_lt_of_le HL.out.2.2 hb20.size⟩); clear hval hb20)
            | (go_at_call 50; have hi3 := intV_nat HN20.out; rw [HZ.out] at hi3; (with_reducible refine (same_any _ _ ((S1 : Int) * (S2 : Int)) _ HV20.out hi3 HX3.out).mono ?_); rintro _ w21 ⟨rfl, hb21⟩; have hs21 := s6_next HL20.out.1 HL20.out.2.1 HL20.out.2.2 hs20 hb21; have HB21 := Lib.hid (HB20.out.trans (hb21.mono HB20.out.size)); clear hb21 hi3))
        go_wp2_with fail
        go_ret
        exact ⟨rfl, HB21.out⟩

theorem mult_law (m n : Int) (w : World) (hT : TabW w) (hB : 0 < w.heap.size) (b1 : -9223372036854775808 ≤ m) (b2 : m ≤ 9223372036854775807) (b3 : -9223372036854775808 ≤ n) (b4 : n ≤ 9223372036854775807) :
    Calls Tryd.prog 14 #[.int .i64 m, .int .i64 n] w fun x w' => x = .returned (.bool true) ∧ Below w.heap.size w w' := by
  by_cases h : m < 1 ∨ 10000 < m ∨ n < 1 ∨ 10000 < n ∨ gcdW m n ≠ 1
  · exact mult_early m n w hT hB b1 b2 b3 b4 h
  · obtain ⟨M, rfl⟩ := Int.eq_ofNat_of_zero_le (show 0 ≤ m by omega)
    obtain ⟨N, rfl⟩ := Int.eq_ofNat_of_zero_le (show 0 ≤ n by omega)
    refine mult_main M N w hT hB (by omega) (by omega) (by omega) (by omega) ?_
    have hg : gcdW (M : Int) (N : Int) = 1 := by omega
    unfold gcdW at hg
    rw [Int.gcd_natCast_natCast] at hg
    split at hg
    · omega
    · exact_mod_cast hg
end Go.Proofs.YtjmldlbiihaefaaDoor
