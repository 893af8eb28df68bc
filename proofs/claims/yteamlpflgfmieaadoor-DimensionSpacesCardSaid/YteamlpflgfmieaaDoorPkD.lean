/- Own texts joined: NumZ, DmD, DmE, DmF, DmG, DmH, DmI, DmJ. -/
import Derived.Test.YteamlpflgfmieaaDoorPkC
/-! Plain: the sums over roots of the dimension formulas; the sum over the divisors. -/
namespace HP

theorem rootR_bd {n c : Nat} {g : Nat → Int} {B : Int} (hB : 0 ≤ B) (hg : ∀ a, 0 < a → -B ≤ g a ∧ g a ≤ B) : ∀ m : Nat, -(B * m) ≤ rootR n c g m ∧ rootR n c g m ≤ B * m
  | 0 => by simp [rootR]
  | m + 1 => by
    have h1 := hg (m + 1) (by omega)
    have h2 := rootR_bd (n := n) (c := c) hB hg m
    rw [rootR, Int.natCast_add, Int.mul_add]
    simp only [Int.natCast_one, Int.mul_one]
    split <;> omega
theorem root_gcd {a c n : Nat} (h : (a * a + c * a + 1) % n = 0) : Nat.gcd a n = 1 := by
  have h1 : Nat.gcd a n ∣ a * a + c * a + 1 := Nat.dvd_trans (Nat.gcd_dvd_right a n) (Nat.dvd_of_mod_eq_zero h)
  have h2 : Nat.gcd a n ∣ a * a + c * a := by
    rw [← Nat.add_mul]
    exact Nat.dvd_trans (Nat.gcd_dvd_left a n) (Nat.dvd_mul_left _ _)
  exact Nat.dvd_one.1 ((Nat.dvd_add_right h2).1 h1)
theorem kro_shift {D : Int} {a n : Nat} (h0 : D ≠ 0) (h4 : D % 4 = 0 ∨ D % 4 = 1) (hd : D.natAbs ∣ n) (ha : 0 < a) : kro D ((a : Int) + n) = jac D a := by
  obtain ⟨k, rfl⟩ := hd
  rw [kro_pos (by omega), show ((a : Int) + ((D.natAbs * k : Nat) : Int)).toNat = a + k * D.natAbs by rw [Nat.mul_comm]; omega]
  exact jac_period h0 h4 a k ha
theorem kro_zero_shift {D : Int} {n : Nat} (hn : 0 < n) : kro D (((0 : Nat) : Int) + n) = jac D n := by
  rw [kro_pos (by omega)]
  congr 1
  omega
theorem four_eq {D : Int} {n c : Nat} (h0 : D ≠ 0) (h4 : D % 4 = 0 ∨ D % 4 = 1) (hd : D.natAbs ∣ n) (hn : 0 < n) : rootS n c (fun a => kro D ((a : Int) + n)) n = rootR n c (fun a => jac D a) n :=
  rootS_rootR hn _ _ (fun _ ha => kro_shift h0 h4 hd ha) (kro_zero_shift hn)
theorem three_eq {D : Int} {n c : Nat} (h0 : D ≠ 0) (h4 : D % 4 = 0 ∨ D % 4 = 1) (hd : D.natAbs ∣ n) (hn : 0 < n) : rootS n c (fun a => 2 * kro D ((a : Int) + n)) n = rootR n c (fun a => 2 * jac D a) n :=
  rootS_rootR hn _ _ (fun _ ha => by rw [kro_shift h0 h4 hd ha]) (by rw [kro_zero_shift hn])
theorem jac_bd {D : Int} {a : Nat} (ha : 0 < a) : -1 ≤ jac D a ∧ jac D a ≤ 1 := by rcases jac_tri D a ha with h | h | h <;> omega
theorem four_bd (D : Int) (n c m : Nat) : -(m : Int) ≤ rootR n c (fun a => jac D a) m ∧ rootR n c (fun a => jac D a) m ≤ m := by
  have := rootR_bd (n := n) (c := c) (g := fun a => jac D a) (B := 1) (by omega) (fun a ha => jac_bd ha) m
  omega
theorem three_bd (D : Int) (n c m : Nat) : -(2 * m : Int) ≤ rootR n c (fun a => 2 * jac D a) m ∧ rootR n c (fun a => 2 * jac D a) m ≤ 2 * m := by
  have := rootR_bd (n := n) (c := c) (g := fun a => 2 * jac D a) (B := 2) (by omega) (fun a ha => by have := jac_bd (D := D) ha; omega) m
  omega
theorem bet_step {p n : Nat} (hp : 2 ≤ p) (hn : 0 < n) (hr : Rough p n) (hd : p ∣ n) : bet n = betF p (mlt p n) * bet (strip p n) := by
  unfold bet
  rw [(facs_round hp hn hr hd).1]
  rfl
theorem bet_one {n : Nat} (h : n ≤ 1) : bet n = 1 := by unfold bet; rw [facs_small h]; rfl
theorem rootR0 {n a : Nat} {g : Nat → Int} (h : 1 ≤ a) : rootR n 0 g a = rootR n 0 g (a - 1) + if (a * a + 1) % n = 0 then g a else 0 := by
  obtain ⟨b, rfl⟩ : ∃ b, a = b + 1 := ⟨a - 1, by omega⟩
  rw [rootR, Nat.zero_mul, Nat.add_zero]
  rfl
theorem rootR1 {n a : Nat} {g : Nat → Int} (h : 1 ≤ a) : rootR n 1 g a = rootR n 1 g (a - 1) + if (a * a + a + 1) % n = 0 then g a else 0 := by
  obtain ⟨b, rfl⟩ : ∃ b, a = b + 1 := ⟨a - 1, by omega⟩
  rw [rootR, Nat.one_mul]
  rfl
theorem root_gcd0 {a n : Nat} (h : (a * a + 1) % n = 0) : Nat.gcd a n = 1 := root_gcd (c := 0) (by rw [Nat.zero_mul]; exact h)
theorem root_gcd1 {a n : Nat} (h : (a * a + a + 1) % n = 0) : Nat.gcd a n = 1 := root_gcd (c := 1) (by rw [Nat.one_mul]; exact h)
theorem sumG_bdm {G : Nat → Int} {B : Int} (hB : 0 ≤ B) : ∀ l : List Nat, (∀ d ∈ l, -B ≤ G d ∧ G d ≤ B) → -(B * l.length) ≤ sumG G l ∧ sumG G l ≤ B * l.length
  | [], _ => by simp [sumG]
  | d :: l, h => by
    have h1 := h d (List.mem_cons_self ..)
    have h2 := sumG_bdm hB l fun x hx => h x (List.mem_cons_of_mem _ hx)
    rw [sumG, List.length_cons, Int.natCast_add, Int.mul_add]
    simp only [Int.natCast_one, Int.mul_one]
    omega
/-- what a divisor gives to the new forms -/
def newG (n k : Nat) (D : Int) (m : Nat) : Int := if D.natAbs ∣ m then bet (n / m) * cuspV m k D else 0
def newV (n k : Nat) (D : Int) : Int := sumG (newG n k D) (dvs n)
theorem tdiv_bd {d k B : Int} (h1 : -B ≤ d) (h2 : d ≤ B) : -B ≤ d.tdiv k ∧ d.tdiv k ≤ B := by
  have h := Int.natAbs_tdiv d k
  have h3 := Nat.div_le_self d.natAbs k.natAbs
  change (d.tdiv k).natAbs = d.natAbs / k.natAbs at h
  generalize d.tdiv k = x at *
  generalize d.natAbs / k.natAbs = y at *
  omega
theorem psi_sm {n : Nat} (h1 : 1 ≤ n) (h2 : n ≤ 120) : 1 ≤ psi n ∧ psi n ≤ 400 := by
  have h : allB 121 (fun n => decide (n = 0) || (decide (1 ≤ prodC psiF n) && decide (prodC psiF n ≤ 400))) = true := by decide +kernel
  have := allB_at h (show n < 121 by omega)
  simp only [Bool.or_eq_true, Bool.and_eq_true, decide_eq_true_eq] at this
  rw [psi_C h1 h2]
  exact this.resolve_left (by omega)
theorem bet_sm {n : Nat} (h1 : 1 ≤ n) (h2 : n ≤ 120) : -8 ≤ bet n ∧ bet n ≤ 8 := by
  have h : allB 121 (fun n => decide (n = 0) || (decide (-8 ≤ prodC betF n) && decide (prodC betF n ≤ 8))) = true := by decide +kernel
  have := allB_at h (show n < 121 by omega)
  simp only [Bool.or_eq_true, Bool.and_eq_true, decide_eq_true_eq] at this
  rw [bet_C h1 h2]
  exact this.resolve_left (by omega)
theorem cuspV_bd {n k : Nat} (D : Int) (h1 : 1 ≤ n) (h2 : n ≤ 120) (hk : 1 ≤ k) (hk2 : k ≤ 24) : -100000 ≤ cuspV n k D ∧ cuspV n k D ≤ 100000 := by
  have a := psi_sm h1 h2
  have b := lam_bd D.natAbs (n := n) (by omega)
  have c : (n : Int) * n ≤ 120 * 120 := Int.mul_le_mul (by omega) (by omega) (by omega) (by omega)
  have d : ((k : Int) - 1) * psi n ≤ 23 * 400 := Int.mul_le_mul (by omega) (by omega) (by omega) (by omega)
  have e : 0 ≤ ((k : Int) - 1) * psi n := Int.mul_nonneg (by omega) (by omega)
  have f := four_bd D n 0 n
  have g := three_bd D n 1 n
  unfold cuspV
  refine tdiv_bd ?_ ?_ <;> (unfold dim12; (repeat' split) <;> omega)
theorem newG_bd {n k m : Nat} (D : Int) (h1 : 1 ≤ n) (h2 : n ≤ 120) (hk : 1 ≤ k) (hk2 : k ≤ 24) (hm : m ∣ n) : -800000 ≤ newG n k D m ∧ newG n k D m ≤ 800000 := by
  have hm1 := Nat.pos_of_dvd_of_pos hm h1
  have hm2 := Nat.le_of_dvd h1 hm
  have hq1 : 0 < n / m := Nat.div_pos hm2 hm1
  have hq2 := Nat.div_le_self n m
  have a := bet_sm hq1 (by omega)
  have b := cuspV_bd D hm1 (by omega) hk hk2
  unfold newG
  split
  · have h := Int.natAbs_mul (bet (n / m)) (cuspV m k D)
    have h3 : (bet (n / m)).natAbs * (cuspV m k D).natAbs ≤ 8 * 100000 := Nat.mul_le_mul (by omega) (by omega)
    omega
  · omega
theorem newS_bd {n k : Nat} (D : Int) (h1 : 1 ≤ n) (h2 : n ≤ 120) (hk : 1 ≤ k) (hk2 : k ≤ 24) (i : Nat) : -96000000 ≤ sumG (newG n k D) ((dvs n).take i) ∧ sumG (newG n k D) ((dvs n).take i) ≤ 96800000 := by
  have h := sumG_bdm (G := newG n k D) (B := 800000) (by omega) ((dvs n).take i) fun d hd => newG_bd D h1 h2 hk hk2 ((dvs_mem h1).1 (List.mem_of_mem_take hd))
  have hl : ((dvs n).take i).length ≤ n := by
    rw [List.length_take]
    have : (dvs n).length ≤ n := by
      have h0 : isDv n 0 = false := by simp [isDv]
      unfold dvs
      rw [List.range_succ_eq_map, List.filter_cons, h0]
      refine Nat.le_trans (List.length_filter_le _ _) ?_
      simp
    omega
  omega
/-- how many divisors are below d -/
def cntD (N d : Nat) : Nat := ((List.range d).filter (isDv N)).length
theorem cntD_one (N : Nat) : cntD N 1 = 0 := by simp [cntD, isDv, List.range_succ]
theorem cntD_yes {N d : Nat} (h : isDv N d = true) : cntD N (d + 1) = cntD N d + 1 := by simp [cntD, List.range_succ, h]
theorem cntD_no {N d : Nat} (h : isDv N d = false) : cntD N (d + 1) = cntD N d := by simp [cntD, List.range_succ, h]
theorem cntD_le (N d : Nat) : cntD N d ≤ d := Nat.le_trans (List.length_filter_le _ _) (by simp)
theorem cntD_at {N d : Nat} (hd : d ≤ N) (h : isDv N d = true) : (dvs N)[cntD N d]? = some d := by
  have e : List.range (N + 1) = List.range d ++ d :: (List.range (N - d)).map (· + (d + 1)) := by
    have h1 : N + 1 = d + (N + 1 - d) := by omega
    rw [h1, List.range_add]
    congr 1
    rw [show N + 1 - d = (N - d) + 1 by omega, List.range_succ_eq_map, List.map_cons, List.map_map]
    congr 1
    apply List.map_congr_left
    intro x _
    simp
    omega
  unfold dvs cntD
  rw [e, List.filter_append, List.filter_cons, if_pos h, List.getElem?_append_right (Nat.le_refl _), Nat.sub_self]
  rfl
theorem cntD_end (N : Nat) : cntD N (N + 1) = (dvs N).length := rfl
end HP

/- The space of a Spec: walked by hand. -/
namespace Go.Proofs.YteamlpflgfmieaaDoor
open Go Go.RowKit Go.VG HP
/-- what is in memory: out (block g), the Spec (s), the level (l), the result (r) -/
structure QW (w0 : World) (s l r g : Nat) (n f K D x y : Int) (w : World) : Prop where
  hb : Below w0.heap.size w0 w
  c0 : w.cell? ⟨g, 0, none⟩ = some (.int .i64 n)
  c1 : w.cell? ⟨g, 1, none⟩ = some (.int .i64 f)
  c2 : w.cell? ⟨g, 2, none⟩ = some (.int .i64 K)
  c3 : w.cell? ⟨g, 3, none⟩ = some (.int .i64 x)
  c4 : w.cell? ⟨g, 4, none⟩ = some (.int .i64 y)
  s2 : w.cell? ⟨s, 2, none⟩ = some (.int .i64 D)
  l0 : w.cell? ⟨l, 0, none⟩ = some (.int .i64 n)
  fg : ∀ i, w.frozen? ⟨g, i, none⟩ = false
  r0 : ∀ i, i < 5 → w.cell? ⟨r, i, none⟩ = some (.int .i64 0)
  fr : ∀ i, w.frozen? ⟨r, i, none⟩ = false
theorem QW.set3 {w0 w : World} {s l r g : Nat} {n f K D x y : Int} (h : QW w0 s l r g n f K D x y w) (hg : w0.heap.size ≤ g) (h3 : g ≠ r) (x' : Int) (m : Nat) : QW w0 s l r g n f K D x' y ((w.setCell ⟨g, 3, none⟩ (.int .i64 x')).drewN m) := by
  obtain ⟨hb, c0, c1, c2, c3, c4, s2, l0, fg, r0, fr⟩ := h
  refine ⟨below_drewN (hb.setCell hg _) m, ?_, ?_, ?_, ?_, ?_, ?_, ?_, fun i => ?_, fun i hi => ?_, fun i => ?_⟩
  · rw [World.cell?_drewN, World.cell?_setCell_other _ _ _ _ (by simp)]; exact c0
  · rw [World.cell?_drewN, World.cell?_setCell_other _ _ _ _ (by simp)]; exact c1
  · rw [World.cell?_drewN, World.cell?_setCell_other _ _ _ _ (by simp)]; exact c2
  · rw [World.cell?_drewN]; exact World.cell?_setCell_same _ _ _ c3
  · rw [World.cell?_drewN, World.cell?_setCell_other _ _ _ _ (by simp)]; exact c4
  · rw [World.cell?_drewN, World.cell?_setCell_other _ _ _ _ (by simp)]; exact s2
  · rw [World.cell?_drewN, World.cell?_setCell_other _ _ _ _ (by simp)]; exact l0
  · rw [World.frozen?_drewN]; exact (World.frozen?_setCell _ _ _ _).trans (fg i)
  · rw [World.cell?_drewN, World.cell?_setCell_other _ _ _ _ (fun h => h3 (by cases h; rfl))]; exact r0 i hi
  · rw [World.frozen?_drewN]; exact (World.frozen?_setCell _ _ _ _).trans (fr i)
theorem QW.set4 {w0 w : World} {s l r g : Nat} {n f K D x y : Int} (h : QW w0 s l r g n f K D x y w) (hg : w0.heap.size ≤ g) (h3 : g ≠ r) (y' : Int) (m : Nat) : QW w0 s l r g n f K D x y' ((w.setCell ⟨g, 4, none⟩ (.int .i64 y')).drewN m) := by
  obtain ⟨hb, c0, c1, c2, c3, c4, s2, l0, fg, r0, fr⟩ := h
  refine ⟨below_drewN (hb.setCell hg _) m, ?_, ?_, ?_, ?_, ?_, ?_, ?_, fun i => ?_, fun i hi => ?_, fun i => ?_⟩
  · rw [World.cell?_drewN, World.cell?_setCell_other _ _ _ _ (by simp)]; exact c0
  · rw [World.cell?_drewN, World.cell?_setCell_other _ _ _ _ (by simp)]; exact c1
  · rw [World.cell?_drewN, World.cell?_setCell_other _ _ _ _ (by simp)]; exact c2
  · rw [World.cell?_drewN, World.cell?_setCell_other _ _ _ _ (by simp)]; exact c3
  · rw [World.cell?_drewN]; exact World.cell?_setCell_same _ _ _ c4
  · rw [World.cell?_drewN, World.cell?_setCell_other _ _ _ _ (by simp)]; exact s2
  · rw [World.cell?_drewN, World.cell?_setCell_other _ _ _ _ (by simp)]; exact l0
  · rw [World.frozen?_drewN]; exact (World.frozen?_setCell _ _ _ _).trans (fg i)
  · rw [World.cell?_drewN, World.cell?_setCell_other _ _ _ _ (fun h => h3 (by cases h; rfl))]; exact r0 i hi
  · rw [World.frozen?_drewN]; exact (World.frozen?_setCell _ _ _ _).trans (fr i)
theorem enters59 (args : Array Value) (w : World) : (callFunc 59 args).run Tryd.prog w = .ok (.enter 59 args) w := enters_of Tryd.func59 (by kernel_rfl) rfl args w
theorem enters60 (args : Array Value) (w : World) : (callFunc 60 args).run Tryd.prog w = .ok (.enter 60 args) w := enters_of Tryd.func60 (by kernel_rfl) rfl args w
theorem tabW_lt {w : World} (h : TabW w) : 0 < w.heap.size := by
  have := h 0 (by omega)
  apply Nat.lt_of_not_le
  intro hle
  unfold World.cell? at this
  simp [Array.getElem?_eq_none hle] at this
theorem roots1 {w0 w : World} {s l r g : Nat} {n : Nat} {f K D y : Int} (hT : TabW w0) (h : QW w0 s l r g n f K D 0 y w) (hg : w0.heap.size ≤ g) (h3 : g ≠ r) (hn0 : 0 < n) (hn : n ≤ 1000) (hD : -1000000 ≤ D) (hD2 : D ≤ 1000000) :
    Calls Tryd.prog 58 #[.int .i64 n, .int .i64 0, .func (.func 59) #[] #[.pointer (some ⟨g, 0, none⟩), .pointer (some ⟨s, 0, none⟩), .pointer (some ⟨l, 0, none⟩)]] w fun e w' => e = .returned (.tuple #[]) ∧ QW w0 s l r g n f K D (rootS n 0 (fun a => kro D ((a : Int) + n)) n) y w' := by
  refine roots_any _ _ enters59 n 0 w hn0 hn (by omega) (fun a wr => QW w0 s l r g n f K D (rootS n 0 (fun a => kro D ((a : Int) + n)) a) y wr) h ?_ ?_
  · intro a wr ha hz hI
    have hb := rootS_bd (n := n) (c := 0) (g := fun a => kro D ((a : Int) + n)) (B := 1) (by omega) (fun a => by rcases kro_tri D ((a : Int) + n) with h | h | h <;> (simp only [h]; omega)) a
    have hT' : TabW wr := hT.below hI.hb (tabW_lt hT)
    refine (quad1_any g s l a n _ D wr hT' hI.c3 (hI.fg 3) hI.s2 hI.l0 (by omega) hn hD hD2 (by omega) (by omega)).mono ?_
    rintro x w' ⟨rfl, m, rfl⟩
    refine ⟨rfl, ?_⟩
    rw [rootS, if_pos hz]
    exact hI.set3 hg h3 _ m
  · intro a wr hz hI
    rw [rootS, if_neg hz, Int.add_zero]
    exact hI
theorem roots2 {w0 w : World} {s l r g : Nat} {n : Nat} {f K D x : Int} (hT : TabW w0) (h : QW w0 s l r g n f K D x 0 w) (hg : w0.heap.size ≤ g) (h3 : g ≠ r) (hn0 : 0 < n) (hn : n ≤ 1000) (hD : -1000000 ≤ D) (hD2 : D ≤ 1000000) :
    Calls Tryd.prog 58 #[.int .i64 n, .int .i64 1, .func (.func 60) #[] #[.pointer (some ⟨g, 0, none⟩), .pointer (some ⟨s, 0, none⟩), .pointer (some ⟨l, 0, none⟩)]] w fun e w' => e = .returned (.tuple #[]) ∧ QW w0 s l r g n f K D x (rootS n 1 (fun a => 2 * kro D ((a : Int) + n)) n) w' := by
  refine roots_any _ _ enters60 n 1 w hn0 hn (by omega) (fun a wr => QW w0 s l r g n f K D x (rootS n 1 (fun a => 2 * kro D ((a : Int) + n)) a) wr) h ?_ ?_
  · intro a wr ha hz hI
    have hb := rootS_bd (n := n) (c := 1) (g := fun a => 2 * kro D ((a : Int) + n)) (B := 2) (by omega) (fun a => by rcases kro_tri D ((a : Int) + n) with h | h | h <;> (simp only [h]; omega)) a
    have hT' : TabW wr := hT.below hI.hb (tabW_lt hT)
    refine (quad2_any g s l a n _ D wr hT' hI.c4 (hI.fg 4) hI.s2 hI.l0 (by omega) hn hD hD2 (by omega) (by omega)).mono ?_
    rintro x w' ⟨rfl, m, rfl⟩
    refine ⟨rfl, ?_⟩
    rw [rootS, if_pos hz]
    exact hI.set4 hg h3 _ m
  · intro a wr hz hI
    rw [rootS, if_neg hz, Int.add_zero]
    exact hI
theorem qw_start (w : World) (L K D n f : Int) (t1 t2 t3 t4 : TypeId) : QW w w.heap.size (w.heap.size + 1) (w.heap.size + 1 + 1) (w.heap.size + 1 + 1 + 1) n f K D 0 0 ((((w.alloc (.cells #[.int .i64 L, .int .i64 K, .int .i64 D] t1)).alloc (.cells #[.int .i64 n] t2)).alloc (.cells #[.int .i64 0, .int .i64 0, .int .i64 0, .int .i64 0, .int .i64 0] t3)).alloc (.cells #[.int .i64 n, .int .i64 f, .int .i64 K, .int .i64 0, .int .i64 0] t4)) := by
  refine ⟨?_, ?_, ?_, ?_, ?_, ?_, ?_, ?_, fun i => ?_, fun i hi => ?_, fun i => ?_⟩
  · exact ((((Below.refl _ _).alloc (Nat.le_refl _) _).alloc (by simp) _).alloc (by simp <;> omega) _).alloc (by simp <;> omega) _
  · rw [World.cell?_alloc_at _ _ _ _ (by simp)]; rfl
  · rw [World.cell?_alloc_at _ _ _ _ (by simp)]; rfl
  · rw [World.cell?_alloc_at _ _ _ _ (by simp)]; rfl
  · rw [World.cell?_alloc_at _ _ _ _ (by simp)]; rfl
  · rw [World.cell?_alloc_at _ _ _ _ (by simp)]; rfl
  · rw [World.cell?_alloc_past _ _ _ (by simp <;> omega), World.cell?_alloc_past _ _ _ (by simp <;> omega), World.cell?_alloc_past _ _ _ (by simp), World.cell?_alloc_at _ _ _ _ rfl]; rfl
  · rw [World.cell?_alloc_past _ _ _ (by simp <;> omega), World.cell?_alloc_past _ _ _ (by simp), World.cell?_alloc_at _ _ _ _ (by simp)]; rfl
  · exact World.frozen?_alloc_at _ _ _ _ (by simp)
  · rw [World.cell?_alloc_past _ _ _ (by simp), World.cell?_alloc_at _ _ _ _ (by simp)]
    rcases (show i = 0 ∨ i = 1 ∨ i = 2 ∨ i = 3 ∨ i = 4 by omega) with rfl | rfl | rfl | rfl | rfl <;> rfl
  · rw [World.frozen?_alloc_past _ _ _ (by simp)]
    exact World.frozen?_alloc_at _ _ _ _ (by simp)
theorem results_cell1 {fn : Func} {a : Tmp} {t : TypeId} (h : fn.results = #[.cell a t]) {tmps : Array Value} {P : Program} {w : World} {g : Nat} {v : Value} (ha : tmps.getD a undef = .pointer (some ⟨g, 0, none⟩)) (hl : (loadVar t ⟨g, 0, none⟩).run P w = .ok v w) : (results fn tmps).run P w = .ok v w := by
  have ha' : tmps[a]?.getD undef = .pointer (some ⟨g, 0, none⟩) := by simpa using ha
  simp [results, h, ha', asAddr, hl]
theorem cells5 {w : World} {r : Nat} {u : Value} (v0 v1 v2 v3 v4 : Value) (h : ∀ i, i < 5 → w.cell? ⟨r, i, none⟩ = some u) (j : Nat) (v : Value) (hj : [v0, v1, v2, v3, v4][j]? = some v) :
    (((((w.setCell ⟨r, 0, none⟩ v0).setCell ⟨r, 1, none⟩ v1).setCell ⟨r, 2, none⟩ v2).setCell ⟨r, 3, none⟩ v3).setCell ⟨r, 4, none⟩ v4).cell? ⟨r, 0 + j, none⟩ = some v := by
  have o : ∀ (W : World) (i k : Nat) (x : Value), i ≠ k → (W.setCell ⟨r, k, none⟩ x).cell? ⟨r, i, none⟩ = W.cell? ⟨r, i, none⟩ := fun W i k x hik => World.cell?_setCell_other _ _ _ _ (fun h => hik (by cases h; rfl))
  rw [Nat.zero_add]
  match j, hj with
  | 0, hj => cases hj; rw [o _ 0 4 _ (by omega), o _ 0 3 _ (by omega), o _ 0 2 _ (by omega), o _ 0 1 _ (by omega)]; exact World.cell?_setCell_same _ _ _ (h 0 (by omega))
  | 1, hj => cases hj; rw [o _ 1 4 _ (by omega), o _ 1 3 _ (by omega), o _ 1 2 _ (by omega)]; exact World.cell?_setCell_same _ _ _ ((o _ 1 0 _ (by omega)).trans (h 1 (by omega)))
  | 2, hj => cases hj; rw [o _ 2 4 _ (by omega), o _ 2 3 _ (by omega)]; exact World.cell?_setCell_same _ _ _ ((o _ 2 1 _ (by omega)).trans ((o _ 2 0 _ (by omega)).trans (h 2 (by omega))))
  | 3, hj => cases hj; rw [o _ 3 4 _ (by omega)]; exact World.cell?_setCell_same _ _ _ ((o _ 3 2 _ (by omega)).trans ((o _ 3 1 _ (by omega)).trans ((o _ 3 0 _ (by omega)).trans (h 3 (by omega)))))
  | 4, hj => cases hj; exact World.cell?_setCell_same _ _ _ ((o _ 4 3 _ (by omega)).trans ((o _ 4 2 _ (by omega)).trans ((o _ 4 1 _ (by omega)).trans ((o _ 4 0 _ (by omega)).trans (h 4 (by omega))))))
  | j + 5, hj => simp at hj
set_option maxHeartbeats 2000000 in
set_option maxRecDepth 100000 in
theorem quadratic_any (L K D : Int) (n : Nat) (w : World) (hT : TabW w) (hn0 : 0 < n) (hn : n ≤ 1000) (hD : -1000000 ≤ D) (hD2 : D ≤ 1000000) :
    Calls Tryd.prog 33 #[.agg #[.int .i64 L, .int .i64 K, .int .i64 D], .int .i64 n] w fun e w' => e = .returned (.agg #[.int .i64 n, .int .i64 (D.natAbs : Nat), .int .i64 K, .int .i64 (rootS n 0 (fun a => kro D ((a : Int) + n)) n), .int .i64 (rootS n 1 (fun a => 2 * kro D ((a : Int) + n)) n)]) ∧ Below w.heap.size w w' := by
  have c1 := fun f => (roots1 (f := f) hT (qw_start w L K D n f 23 3 47 47) (by omega) (by omega) hn0 hn hD hD2)
  have c2 := fun f x w' h => roots2 (f := f) (x := x) (s := w.heap.size) (l := w.heap.size + 1) (r := w.heap.size + 1 + 1) (g := w.heap.size + 1 + 1 + 1) (n := n) (K := K) (D := D) (w := w') hT h (by omega) (by omega) hn0 hn hD hD2
  have e : max D (-D) = (D.natAbs : Nat) := by omega
  generalize rootS n 0 (fun a => kro D ((a : Int) + n)) n = X at *
  generalize rootS n 1 (fun a => 2 * kro D ((a : Int) + n)) n = Y at *
  have C1 := Lib.hid c1
  have C2 := Lib.hid c2
  clear c1 c2 hT hn0
  go_enter Tryd.func33, Tryd.ntmps33
  go_wp2_with (go_at_call 58; first | (refine (C2.out _ _ _ H1.out).mono ?_; rintro x w'' ⟨rfl, h2⟩; clear H1 l0; obtain ⟨hb, c0, c1, c2, c3, c4, -, -, -, r, fr⟩ := h2; have r0 := r 0 (by omega); have r1 := r 1 (by omega); have r2 := r 2 (by omega); have r3 := r 3 (by omega); have r4 := r 4 (by omega); have HB := Lib.hid hb; have HR := Lib.hid r; clear hb r C1 C2 e hn hD hD2) | (refine (C1.out _).mono ?_; rintro x w' ⟨rfl, h1⟩; have l0 := h1.l0; have H1 := Lib.hid h1; clear h1))
  refine bodyPost_ret (results_cell1 rfl rfl ((run_loadVar (d := ⟨.struct [(0, 3), (1, 3), (2, 3), (3, 3), (4, 3)], 5, 40, [.int .i64 0, .int .i64 0, .int .i64 0, .int .i64 0, .int .i64 0]⟩) (by kernel_rfl) _ 0 [_, _, _, _, _] _ (cells5 _ _ _ _ _ HR.out) rfl (fun h => by cases h)).trans rfl)) rfl ⟨rfl, ?_⟩
  have hle : w.heap.size ≤ w.heap.size + 1 + 1 := by omega
  exact ((((HB.out.setCell hle _).setCell hle _).setCell hle _).setCell hle _).setCell hle _
theorem quadratic_sp (L K D : Int) (n : Nat) (h0 : D ≠ 0) (h4 : D % 4 = 0 ∨ D % 4 = 1) (hd : D.natAbs ∣ n) (hn0 : 1 ≤ n) (hn : n ≤ 1000) (hD : -1000000 ≤ D) (hD2 : D ≤ 1000000) : Sp CX 33 [specA L K D, int .i64 n] (spA n (D.natAbs : Nat) K (rootR n 0 (fun a => jac D a) n) (rootR n 1 (fun a => 2 * jac D a) n)) := by
  rw [← four_eq h0 h4 hd hn0, ← three_eq h0 h4 hd hn0]
  refine .of_val (vs0 := [.agg #[.int .i64 L, .int .i64 K, .int .i64 D], .int .i64 n]) (callOk Tryd.func33 (by kernel_rfl) (by kernel_rfl)) rfl (fun ρ w vs h => ?_) (fun _ _ => ⟨[_, _, _, _, _], rfl, ⟨rfl, rfl⟩, ⟨rfl, rfl⟩, ⟨rfl, rfl⟩, ⟨rfl, rfl⟩, ⟨rfl, rfl⟩, trivial⟩) fun w hG => quadratic_any L K D n w hG hn0 hn hD hD2
  match vs, h with
  | [_, _], ⟨⟨cs, rfl, hc⟩, ⟨_, rfl⟩, _⟩ =>
    match cs, hc with
    | [_, _, _], ⟨⟨_, rfl⟩, ⟨_, rfl⟩, ⟨_, rfl⟩, _⟩ => rfl
end Go.Proofs.YteamlpflgfmieaaDoor

/- The sums of the reference over the divisors. -/
namespace Go.Proofs.YteamlpflgfmieaaDoor
open Go Go.RowKit Go.VG HP
theorem blkLe_app {k n : Nat} {e : TypeId} {u : Bool} {α : Type} {mk : α → Nat → Leaf} {Z Y : Nat → α} (h : Y 0 = Z n) (hp : ∀ z j, pureL (mk z j) = true) : BlkLe (.rw k e u α mk (appZ α Z Y n) (n + 1)) (.rw k e u α mk Z (n + 1)) :=
  .rw (fun i j hi _ => by
    unfold appZ
    split
    · exact .refl _
    · obtain rfl : i = n := by omega
      rw [Nat.sub_self, h]
      exact .refl _) (fun _ _ _ _ => hp _ _)
set_option maxHeartbeats 2000000 in
theorem divisors20_sp (N : Nat) (Z : Nat → Nat) (len : Nat) (hZ : ∀ i x, (dvs N)[i]? = some x → Z i = x) (hl : len = (dvs N).length) (hN0 : 1 ≤ N) (hN : N ≤ 1000000) : Sp CX 17 [int .i64 N] (.v (.c (.sl 1 Nat (fun z _ => ix z) Z len))) := by
  refine fn_sp (C := CX) [] [0] tysX_ok mixed Tryd.func17 rfl (by kernel_rfl) Tryd.ntmps17 rfl rfl ?_
  repeat' (conv => whnf
           first
             | (refine Ob.mk (by (first | omega | (simp only [InK]; omega) | exact ⟨by omega, tdivIn (by omega) (by omega)⟩ | exact ⟨by first | omega | (simp only [InK]; omega), by first | omega | (simp only [InK]; omega)⟩)) ?_)
             | (refine Cases.yes (by (first | assumption | exact decide_eq_true (by first | assumption | omega) | exact congrArg (!·) (decide_eq_false (by first | assumption | omega)) | exact congrArg (!·) (show _ = false by assumption) | rfl)) ?_)
             | (refine Cases.no (by (first | assumption | exact decide_eq_false (by first | assumption | omega) | exact congrArg (!·) (decide_eq_true (by first | assumption | omega)) | exact congrArg (!·) (show _ = true by assumption) | rfl)) ?_)
             | (refine Idx.mk ⟨_, rfl, by first | assumption | omega, ?_⟩)
             | (refine Idx.mk ⟨0, rfl, by omega, ?_⟩)
             | (refine DrawOb.start ?_)
             | (refine TryF.fast rfl (by decide +kernel) (by kernel_rfl) ?_)
             | (refine TryF.next rfl ?_)
             | (refine TryF.other ?_)
             | (refine TryG.go rfl (by decide +kernel) (by kernel_rfl) ?_)
             | (refine TryG.next rfl ?_))
  refine ⟨⟨Nat × Nat, fun (d, m) => ⟨[(0, int .i64 N), (3, .v (.c (.row 0))), (4, int .i64 d)], [(0, .rw 1 3 false Nat (fun z _ => ix z) Z m)], 1⟩, fun (d, m) => 1 ≤ d ∧ d ≤ N + 1 ∧ m = cntD N d, fun (d, _) => N + 1 - d, ⟨(1, 0), [.n 3 0 1 3], ⟨Nat.le_refl _, by omega, (cntD_one N).symm⟩, (by refine ⟨?_, ?_, rfl⟩ <;> repeat (first | exact TmE.nil | exact OwnE.nil | refine TmE.cons (by first | exact AvLe.refl _ | exact AvLe.int (by omega) | exact AvLe.bool (by first | rfl | assumption)) ?_ | refine OwnE.cons rfl (BlkLe.refl _) ?_ | refine OwnE.cons rfl BlkLe.zero ?_))⟩, ?_⟩⟩
  rintro ⟨d, m⟩ ⟨h1, h2, hm⟩
  have hle := cntD_le N d
  rw [← hm] at hle
  by_cases hd : d ≤ N
  · have em : (N : Int).tmod d = ((N % d : Nat) : Int) := (Int.ofNat_tmod N d).symm
    by_cases hz : N % d = 0
    · have hi : isDv N d = true := isDv_iff.2 ⟨h1, Nat.dvd_of_mod_eq_zero hz⟩
      have hc := cntD_yes hi
      have hat := hZ _ _ (cntD_at hd hi)
      rw [← hm] at hc hat
      repeat' (conv => whnf
               first
                 | (refine Ob.mk (by (first | omega | (simp only [InK]; omega) | exact ⟨by omega, tdivIn (by omega) (by omega)⟩ | exact ⟨by first | omega | (simp only [InK]; omega), by first | omega | (simp only [InK]; omega)⟩)) ?_)
                 | (refine Cases.yes (by (first | assumption | exact decide_eq_true (by first | assumption | omega) | exact congrArg (!·) (decide_eq_false (by first | assumption | omega)) | exact congrArg (!·) (show _ = false by assumption) | rfl)) ?_)
                 | (refine Cases.no (by (first | assumption | exact decide_eq_false (by first | assumption | omega) | exact congrArg (!·) (decide_eq_true (by first | assumption | omega)) | exact congrArg (!·) (show _ = true by assumption) | rfl)) ?_)
                 | (refine Idx.mk ⟨_, rfl, by first | assumption | omega, ?_⟩)
                 | (refine Idx.mk ⟨0, rfl, by omega, ?_⟩)
                 | (refine DrawOb.start ?_)
                 | (refine TryF.fast rfl (by decide +kernel) (by kernel_rfl) ?_)
                 | (refine TryF.next rfl ?_)
                 | (refine TryF.other ?_)
                 | (refine TryG.go rfl (by decide +kernel) (by kernel_rfl) ?_)
                 | (refine TryG.next rfl ?_))
      refine ⟨⟨fun _ => d, fun i j hi hj => ?_, fun _ _ _ _ => rfl, ?_⟩⟩
      · obtain rfl : i = 0 := by omega
        obtain rfl : j = 0 := by omega
        exact .refl _
      repeat' (conv => whnf
               first
                 | (refine Ob.mk (by (first | omega | (simp only [InK]; omega) | exact ⟨by omega, tdivIn (by omega) (by omega)⟩ | exact ⟨by first | omega | (simp only [InK]; omega), by first | omega | (simp only [InK]; omega)⟩)) ?_)
                 | (refine Cases.yes (by (first | assumption | exact decide_eq_true (by first | assumption | omega) | exact congrArg (!·) (decide_eq_false (by first | assumption | omega)) | exact congrArg (!·) (show _ = false by assumption) | rfl)) ?_)
                 | (refine Cases.no (by (first | assumption | exact decide_eq_false (by first | assumption | omega) | exact congrArg (!·) (decide_eq_true (by first | assumption | omega)) | exact congrArg (!·) (show _ = true by assumption) | rfl)) ?_)
                 | (refine Idx.mk ⟨_, rfl, by first | assumption | omega, ?_⟩)
                 | (refine Idx.mk ⟨0, rfl, by omega, ?_⟩)
                 | (refine DrawOb.start ?_)
                 | (refine TryF.fast rfl (by decide +kernel) (by kernel_rfl) ?_)
                 | (refine TryF.next rfl ?_)
                 | (refine TryF.other ?_)
                 | (refine TryG.go rfl (by decide +kernel) (by kernel_rfl) ?_)
                 | (refine TryG.next rfl ?_))
      exact ⟨(d + 1, m + 1), [.s 0 1], ⟨by omega, by omega, hc.symm⟩, by show N + 1 - (d + 1) < N + 1 - d; omega, by
        refine ⟨?_, .cons rfl (blkLe_app hat.symm fun _ _ => rfl) .nil, rfl⟩
        repeat (first | exact TmE.nil | refine TmE.cons (by first | exact AvLe.refl _ | exact AvLe.int (by omega)) ?_)⟩
    · have hi : isDv N d = false := by
        rw [Bool.eq_false_iff]
        intro h
        exact hz (Nat.mod_eq_zero_of_dvd (isDv_iff.1 h).2)
      have hc := cntD_no hi
      repeat' (conv => whnf
               first
                 | (refine Ob.mk (by (first | omega | (simp only [InK]; omega) | exact ⟨by omega, tdivIn (by omega) (by omega)⟩ | exact ⟨by first | omega | (simp only [InK]; omega), by first | omega | (simp only [InK]; omega)⟩)) ?_)
                 | (refine Cases.yes (by (first | assumption | exact decide_eq_true (by first | assumption | omega) | exact congrArg (!·) (decide_eq_false (by first | assumption | omega)) | exact congrArg (!·) (show _ = false by assumption) | rfl)) ?_)
                 | (refine Cases.no (by (first | assumption | exact decide_eq_false (by first | assumption | omega) | exact congrArg (!·) (decide_eq_true (by first | assumption | omega)) | exact congrArg (!·) (show _ = true by assumption) | rfl)) ?_)
                 | (refine Idx.mk ⟨_, rfl, by first | assumption | omega, ?_⟩)
                 | (refine Idx.mk ⟨0, rfl, by omega, ?_⟩)
                 | (refine DrawOb.start ?_)
                 | (refine TryF.fast rfl (by decide +kernel) (by kernel_rfl) ?_)
                 | (refine TryF.next rfl ?_)
                 | (refine TryF.other ?_)
                 | (refine TryG.go rfl (by decide +kernel) (by kernel_rfl) ?_)
                 | (refine TryG.next rfl ?_))
      exact ⟨(d + 1, m), [], ⟨by omega, by omega, hm.trans hc.symm⟩, by show N + 1 - (d + 1) < N + 1 - d; omega, (by refine ⟨?_, ?_, rfl⟩ <;> repeat (first | exact TmE.nil | exact OwnE.nil | refine TmE.cons (by first | exact AvLe.refl _ | exact AvLe.int (by omega) | exact AvLe.bool (by first | rfl | assumption)) ?_ | refine OwnE.cons rfl (BlkLe.refl _) ?_ | refine OwnE.cons rfl BlkLe.zero ?_))⟩
  · obtain rfl : d = N + 1 := by omega
    have he := hm.trans ((cntD_end N).trans hl.symm)
    subst he
    repeat' (conv => whnf
             first
               | (refine Ob.mk (by (first | omega | (simp only [InK]; omega) | exact ⟨by omega, tdivIn (by omega) (by omega)⟩ | exact ⟨by first | omega | (simp only [InK]; omega), by first | omega | (simp only [InK]; omega)⟩)) ?_)
               | (refine Cases.yes (by (first | assumption | exact decide_eq_true (by first | assumption | omega) | exact congrArg (!·) (decide_eq_false (by first | assumption | omega)) | exact congrArg (!·) (show _ = false by assumption) | rfl)) ?_)
               | (refine Cases.no (by (first | assumption | exact decide_eq_false (by first | assumption | omega) | exact congrArg (!·) (decide_eq_true (by first | assumption | omega)) | exact congrArg (!·) (show _ = true by assumption) | rfl)) ?_)
               | (refine Idx.mk ⟨_, rfl, by first | assumption | omega, ?_⟩)
               | (refine Idx.mk ⟨0, rfl, by omega, ?_⟩)
               | (refine DrawOb.start ?_)
               | (refine TryF.fast rfl (by decide +kernel) (by kernel_rfl) ?_)
               | (refine TryF.next rfl ?_)
               | (refine TryF.other ?_)
               | (refine TryG.go rfl (by decide +kernel) (by kernel_rfl) ?_)
               | (refine TryG.next rfl ?_))
    refine ⟨⟨_, _, rfl, rfl, ?_⟩⟩
    exact AvLe.refl _
end Go.Proofs.YteamlpflgfmieaaDoor

/- The reference: beta, cusp forms, Eisenstein series, Sturm's bound. -/
namespace Go.Proofs.YteamlpflgfmieaaDoor
open Go Go.RowKit Go.VG HP
set_option maxHeartbeats 4000000 in
theorem beta31_sp (N : Nat) (hN0 : 1 ≤ N) (hN : N ≤ 120) : Sp CX 43 [int .i64 N] (int .i64 (bet N)) := by
  refine fn_sp (C := CX) [] [] tysX_ok mixed Tryd.func43 rfl (by kernel_rfl) Tryd.ntmps43 rfl rfl ?_
  repeat' (conv => whnf
           first
             | (refine Ob.mk (by (first | omega | (simp only [InK]; omega) | exact ⟨by omega, tdivIn (by omega) (by omega)⟩ | exact ⟨by first | omega | (simp only [InK]; omega), by first | omega | (simp only [InK]; omega)⟩)) ?_)
             | (refine Cases.yes (by (first | assumption | exact decide_eq_true (by first | assumption | omega) | exact congrArg (!·) (decide_eq_false (by first | assumption | omega)) | exact congrArg (!·) (show _ = false by assumption) | rfl)) ?_)
             | (refine Cases.no (by (first | assumption | exact decide_eq_false (by first | assumption | omega) | exact congrArg (!·) (decide_eq_true (by first | assumption | omega)) | exact congrArg (!·) (show _ = true by assumption) | rfl)) ?_)
             | (refine Idx.mk ⟨_, rfl, by first | assumption | omega, ?_⟩)
             | (refine Idx.mk ⟨0, rfl, by omega, ?_⟩)
             | (refine DrawOb.start ?_)
             | (refine TryF.fast rfl (by decide +kernel) (by kernel_rfl) ?_)
             | (refine TryF.next rfl ?_)
             | (refine TryF.other ?_)
             | (refine TryG.go rfl (by decide +kernel) (by kernel_rfl) ?_)
             | (refine TryG.next rfl ?_))
  refine ⟨⟨Nat × Int × Nat, fun (n, o, p) => ⟨[(0, int .i64 n), (3, int .i64 o), (4, int .i64 p)], [], 0⟩, fun (n, o, p) => 0 < n ∧ n ≤ N ∧ 2 ≤ p ∧ p ≤ N + 2 ∧ Rough p n ∧ (-120 ≤ o ∧ o ≤ 120) ∧ Hid (o.natAbs * n ≤ N) ∧ Hid (bet N = o * bet n), fun (_, _, p) => N + 3 - p, ⟨(N, 1, 2), [], ⟨hN0, Nat.le_refl _, Nat.le_refl _, by omega, rough_two N, by omega, show 1 * N ≤ N by omega, (Int.one_mul _).symm⟩, (by refine ⟨?_, ?_, rfl⟩ <;> repeat (first | exact TmE.nil | exact OwnE.nil | refine TmE.cons (by first | exact AvLe.refl _ | exact AvLe.int (by omega) | exact AvLe.bool (by first | rfl | assumption)) ?_ | refine OwnE.cons rfl (BlkLe.refl _) ?_ | refine OwnE.cons rfl BlkLe.zero ?_))⟩, ?_⟩⟩
  rintro ⟨n, o, p⟩ ⟨k1, k2, k3, k4, k5, k6, k7, k8⟩
  by_cases ha : 1 < n
  · have hle : p ≤ n := rough_le (by omega) k5
    have hspos := strip_pos p n k1
    have hsle : strip p n ≤ n := Nat.le_of_dvd k1 (strip_dvd p n)
    have hpd := mlt_dvd p n
    have hple := Nat.le_of_dvd k1 hpd
    have hppos : 0 < p ^ mlt p n := Nat.pow_pos (by omega)
    have hmul := strip_mul p n
    have hml : mlt p n ≤ n := by
      have := Nat.lt_pow_self (n := mlt p n) (show 1 < p by omega)
      omega
    have hrough : Rough (p + 1) (strip p n) := by
      by_cases hd : p ∣ n
      · exact rough_next (rough_dvd k5 (strip_dvd p n)) (strip_not k3 k1)
      · rw [strip_no fun h => hd (Nat.dvd_of_mod_eq_zero h)]
        exact rough_next k5 hd
    have hbet : bet n = (if mlt p n = 0 then 1 else betF p (mlt p n)) * bet (strip p n) := by
      by_cases hd : p ∣ n
      · have := mlt_pos k3 k1 hd
        rw [if_neg (by omega)]
        exact bet_step k3 k1 k5 hd
      · have h0 : n % p ≠ 0 := fun h => hd (Nat.dvd_of_mod_eq_zero h)
        rw [if_pos (mlt_no h0), strip_no h0, Int.one_mul]
    have hstep : ∀ o', o' = o * (if mlt p n = 0 then 1 else betF p (mlt p n)) → bet N = o' * bet (strip p n) := fun o' h => by rw [k8.out, hbet, h, Int.mul_assoc]
    obtain ⟨r, hr⟩ : ∃ r, r = p ^ mlt p n := ⟨_, rfl⟩
    have hq : (n : Int).tdiv r = (strip p n : Nat) := by rw [hr]; exact (Int.ofNat_tdiv n _).symm
    have hz : mlt p n = 1 → r = p := fun h => by rw [hr, h, Nat.pow_one]
    rw [← hr] at hple hppos hmul
    have HR := Lib.hid hr
    obtain ⟨e, he⟩ : ∃ e, e = mlt p n := ⟨_, rfl⟩
    have hk7 : o.natAbs * strip p n ≤ N := Nat.le_trans (Nat.mul_le_mul_left _ hsle) k7.out
    by_cases c1 : mlt p n = 1
    · have hs := hstep (o * -2) (by rw [if_neg (by omega), c1]; rfl)
      have hb : (o * -2).natAbs * strip p n ≤ N := by
        rw [Int.natAbs_mul, show (-2 : Int).natAbs = 2 from rfl, Nat.mul_assoc]
        refine Nat.le_trans (Nat.mul_le_mul_left _ ?_) k7.out
        have : 2 * strip p n ≤ r * strip p n := Nat.mul_le_mul_right _ (by rw [hz c1]; omega)
        omega
      have hb2 : -120 ≤ o * -2 ∧ o * -2 ≤ 120 := by
        have := Nat.mul_le_mul_left (o * -2).natAbs hspos
        omega
      have HB := Lib.hid hb
      have HS := Lib.hid hs
      clear hb hs hk7 hz hr hstep hbet hpd he hmul
      repeat' (conv => whnf
               first
                 | (refine Ob.mk (by (first | omega | (simp only [InK]; omega) | exact ⟨by omega, tdivIn (by omega) (by omega)⟩ | exact ⟨by first | omega | (simp only [InK]; omega), by first | omega | (simp only [InK]; omega)⟩)) ?_)
                 | (refine Cases.yes (by (first | assumption | exact decide_eq_true (by first | assumption | omega) | exact congrArg (!·) (decide_eq_false (by first | assumption | omega)) | exact congrArg (!·) (show _ = false by assumption) | rfl)) ?_)
                 | (refine Cases.no (by (first | assumption | exact decide_eq_false (by first | assumption | omega) | exact congrArg (!·) (decide_eq_true (by first | assumption | omega)) | exact congrArg (!·) (show _ = true by assumption) | rfl)) ?_)
                 | (refine Idx.mk ⟨_, rfl, by first | assumption | omega, ?_⟩)
                 | (refine Idx.mk ⟨0, rfl, by omega, ?_⟩)
                 | (refine DrawOb.start ?_)
                 | (refine TryF.fast rfl (by decide +kernel) (by kernel_rfl) ?_)
                 | (refine TryF.next rfl ?_)
                 | (refine TryF.other ?_)
                 | (refine TryG.go rfl (by decide +kernel) (by kernel_rfl) ?_)
                 | (refine TryG.next rfl ?_)
                 | (refine Sp.call (rexp_sp n p (by omega) (by omega) (by omega) (by omega)) (ArgsLe.refl _) rfl (AvLe.refl _) ?_)
                 | (refine Sp.call (rpow_sp p (mlt p n) r HR (by omega) (by omega) (by omega) (by omega)) (ArgsLe.refl _) rfl (AvLe.refl _) ?_))
      exact ⟨(strip p n, o * -2, p + 1), [], ⟨hspos, by omega, by omega, by omega, hrough, hb2, HB, HS⟩, by show N + 3 - (p + 1) < N + 3 - p; omega, (by refine ⟨?_, ?_, rfl⟩ <;> repeat (first | exact TmE.nil | exact OwnE.nil | refine TmE.cons (by first | exact AvLe.refl _ | exact AvLe.int (by omega) | exact AvLe.bool (by first | rfl | assumption)) ?_ | refine OwnE.cons rfl (BlkLe.refl _) ?_ | refine OwnE.cons rfl BlkLe.zero ?_))⟩
    · by_cases c2 : 2 < mlt p n
      · have hz0 : bet N = 0 := by
          rw [k8.out, hbet, if_neg (by omega)]
          unfold betF
          rw [if_neg c1, if_neg (by omega), Int.zero_mul, Int.mul_zero]
        clear hk7 hz hr hstep hbet hpd he hmul
        repeat' (conv => whnf
                 first
                   | (refine Ob.mk (by (first | omega | (simp only [InK]; omega) | exact ⟨by omega, tdivIn (by omega) (by omega)⟩ | exact ⟨by first | omega | (simp only [InK]; omega), by first | omega | (simp only [InK]; omega)⟩)) ?_)
                   | (refine Cases.yes (by (first | assumption | exact decide_eq_true (by first | assumption | omega) | exact congrArg (!·) (decide_eq_false (by first | assumption | omega)) | exact congrArg (!·) (show _ = false by assumption) | rfl)) ?_)
                   | (refine Cases.no (by (first | assumption | exact decide_eq_false (by first | assumption | omega) | exact congrArg (!·) (decide_eq_true (by first | assumption | omega)) | exact congrArg (!·) (show _ = true by assumption) | rfl)) ?_)
                   | (refine Idx.mk ⟨_, rfl, by first | assumption | omega, ?_⟩)
                   | (refine Idx.mk ⟨0, rfl, by omega, ?_⟩)
                   | (refine DrawOb.start ?_)
                   | (refine TryF.fast rfl (by decide +kernel) (by kernel_rfl) ?_)
                   | (refine TryF.next rfl ?_)
                   | (refine TryF.other ?_)
                   | (refine TryG.go rfl (by decide +kernel) (by kernel_rfl) ?_)
                   | (refine TryG.next rfl ?_)
                   | (refine Sp.call (rexp_sp n p (by omega) (by omega) (by omega) (by omega)) (ArgsLe.refl _) rfl (AvLe.refl _) ?_))
        refine ⟨⟨_, _, rfl, rfl, AvLe.int ?_⟩⟩
        exact hz0.symm
      · have hs := hstep o (by
          split
          · rw [Int.mul_one]
          · unfold betF
            rw [if_neg c1, if_pos (by omega), Int.mul_one])
        have HB := Lib.hid hk7
        have HS := Lib.hid hs
        clear hs hk7 hz hr hstep hbet hpd he hmul
        repeat' (conv => whnf
                 first
                   | (refine Ob.mk (by (first | omega | (simp only [InK]; omega) | exact ⟨by omega, tdivIn (by omega) (by omega)⟩ | exact ⟨by first | omega | (simp only [InK]; omega), by first | omega | (simp only [InK]; omega)⟩)) ?_)
                   | (refine Cases.yes (by (first | assumption | exact decide_eq_true (by first | assumption | omega) | exact congrArg (!·) (decide_eq_false (by first | assumption | omega)) | exact congrArg (!·) (show _ = false by assumption) | rfl)) ?_)
                   | (refine Cases.no (by (first | assumption | exact decide_eq_false (by first | assumption | omega) | exact congrArg (!·) (decide_eq_true (by first | assumption | omega)) | exact congrArg (!·) (show _ = true by assumption) | rfl)) ?_)
                   | (refine Idx.mk ⟨_, rfl, by first | assumption | omega, ?_⟩)
                   | (refine Idx.mk ⟨0, rfl, by omega, ?_⟩)
                   | (refine DrawOb.start ?_)
                   | (refine TryF.fast rfl (by decide +kernel) (by kernel_rfl) ?_)
                   | (refine TryF.next rfl ?_)
                   | (refine TryF.other ?_)
                   | (refine TryG.go rfl (by decide +kernel) (by kernel_rfl) ?_)
                   | (refine TryG.next rfl ?_)
                   | (refine Sp.call (rexp_sp n p (by omega) (by omega) (by omega) (by omega)) (ArgsLe.refl _) rfl (AvLe.refl _) ?_)
                   | (refine Sp.call (rpow_sp p (mlt p n) r HR (by omega) (by omega) (by omega) (by omega)) (ArgsLe.refl _) rfl (AvLe.refl _) ?_))
        exact ⟨(strip p n, o, p + 1), [], ⟨hspos, by omega, by omega, by omega, hrough, k6, HB, HS⟩, by show N + 3 - (p + 1) < N + 3 - p; omega, (by refine ⟨?_, ?_, rfl⟩ <;> repeat (first | exact TmE.nil | exact OwnE.nil | refine TmE.cons (by first | exact AvLe.refl _ | exact AvLe.int (by omega) | exact AvLe.bool (by first | rfl | assumption)) ?_ | refine OwnE.cons rfl (BlkLe.refl _) ?_ | refine OwnE.cons rfl BlkLe.zero ?_))⟩
  · have e := k8.out
    rw [bet_one (show n ≤ 1 by omega), Int.mul_one] at e
    repeat' (conv => whnf
             first
               | (refine Ob.mk (by (first | omega | (simp only [InK]; omega) | exact ⟨by omega, tdivIn (by omega) (by omega)⟩ | exact ⟨by first | omega | (simp only [InK]; omega), by first | omega | (simp only [InK]; omega)⟩)) ?_)
               | (refine Cases.yes (by (first | assumption | exact decide_eq_true (by first | assumption | omega) | exact congrArg (!·) (decide_eq_false (by first | assumption | omega)) | exact congrArg (!·) (show _ = false by assumption) | rfl)) ?_)
               | (refine Cases.no (by (first | assumption | exact decide_eq_false (by first | assumption | omega) | exact congrArg (!·) (decide_eq_true (by first | assumption | omega)) | exact congrArg (!·) (show _ = true by assumption) | rfl)) ?_)
               | (refine Idx.mk ⟨_, rfl, by first | assumption | omega, ?_⟩)
               | (refine Idx.mk ⟨0, rfl, by omega, ?_⟩)
               | (refine DrawOb.start ?_)
               | (refine TryF.fast rfl (by decide +kernel) (by kernel_rfl) ?_)
               | (refine TryF.next rfl ?_)
               | (refine TryF.other ?_)
               | (refine TryG.go rfl (by decide +kernel) (by kernel_rfl) ?_)
               | (refine TryG.next rfl ?_))
    refine ⟨⟨_, _, rfl, rfl, AvLe.int ?_⟩⟩
    exact e.symm
set_option maxHeartbeats 4000000 in
theorem cuspr_sp (n k : Nat) (D : Int) (hn0 : 1 ≤ n) (hn : n ≤ 120) (h0 : D ≠ 0) (hD : -120 ≤ D) (hD2 : D ≤ 120) (hfn : D.natAbs ∣ n) (hk : 2 ≤ k) (hk2 : k ≤ 24) : Sp CX 25 [specA n k D] (int .i64 (cuspV n k D)) := by
  refine fn_sp (C := CX) [] [] tysX_ok mixed Tryd.func25 rfl (by kernel_rfl) Tryd.ntmps25 rfl rfl ?_
  repeat' (conv => whnf
           first
             | (refine Ob.mk (by (first | omega | (simp only [InK]; omega) | exact ⟨by omega, tdivIn (by omega) (by omega)⟩ | exact ⟨by first | omega | (simp only [InK]; omega), by first | omega | (simp only [InK]; omega)⟩)) ?_)
             | (refine Cases.yes (by (first | assumption | exact decide_eq_true (by first | assumption | omega) | exact congrArg (!·) (decide_eq_false (by first | assumption | omega)) | exact congrArg (!·) (show _ = false by assumption) | rfl)) ?_)
             | (refine Cases.no (by (first | assumption | exact decide_eq_false (by first | assumption | omega) | exact congrArg (!·) (decide_eq_true (by first | assumption | omega)) | exact congrArg (!·) (show _ = true by assumption) | rfl)) ?_)
             | (refine Idx.mk ⟨_, rfl, by first | assumption | omega, ?_⟩)
             | (refine Idx.mk ⟨0, rfl, by omega, ?_⟩)
             | (refine DrawOb.start ?_)
             | (refine TryF.fast rfl (by decide +kernel) (by kernel_rfl) ?_)
             | (refine TryF.next rfl ?_)
             | (refine TryF.other ?_)
             | (refine TryG.go rfl (by decide +kernel) (by kernel_rfl) ?_)
             | (refine TryG.next rfl ?_))
  refine ⟨⟨Nat × Int × Int, fun (a, x, y) => ⟨[(1, .v (.c (.loc 0 0))), (3, int .i64 n), (4, int .i64 x), (5, int .i64 y), (6, int .i64 a)], [(0, .st [ix n, ix k, ix D])], 1⟩, fun (a, x, y) => 1 ≤ a ∧ a ≤ n + 1 ∧ x = rootR n 0 (fun a => jac D a) (a - 1) ∧ y = rootR n 1 (fun a => 2 * jac D a) (a - 1), fun (a, _, _) => n + 1 - a, ⟨(1, 0, 0), [], ⟨Nat.le_refl _, by omega, rfl, rfl⟩, (by refine ⟨?_, ?_, rfl⟩ <;> repeat (first | exact TmE.nil | exact OwnE.nil | refine TmE.cons (by first | exact AvLe.refl _ | exact AvLe.int (by omega) | exact AvLe.bool (by first | rfl | assumption)) ?_ | refine OwnE.cons rfl (BlkLe.refl _) ?_ | refine OwnE.cons rfl BlkLe.zero ?_))⟩, ?_⟩⟩
  rintro ⟨a, x, y⟩ ⟨k1, k2, k3, k4⟩
  have b1 := four_bd D n 0 (a - 1)
  have b2 := three_bd D n 1 (a - 1)
  rw [← k3] at b1
  rw [← k4] at b2
  by_cases hd : a ≤ n
  · have r0 := rootR0 (n := n) (g := fun a => jac D a) k1
    have r1 := rootR1 (n := n) (g := fun a => 2 * jac D a) k1
    have hj := jac_bd (D := D) (a := a) (by omega)
    have haa : (a : Int) * a ≤ 120 * 120 := Int.mul_le_mul (by omega) (by omega) (by omega) (by omega)
    have haa0 : 0 ≤ (a : Int) * a := Int.mul_nonneg (by omega) (by omega)
    have e0 : ((a : Int) * a + 1).tmod n = (((a * a + 1) % n : Nat) : Int) := by rw [show (a : Int) * a + 1 = ((a * a + 1 : Nat) : Int) by push_cast; rfl]; exact (Int.ofNat_tmod _ _).symm
    have e1 : ((a : Int) * a + a + 1).tmod n = (((a * a + a + 1) % n : Nat) : Int) := by rw [show (a : Int) * a + a + 1 = ((a * a + a + 1 : Nat) : Int) by push_cast; rfl]; exact (Int.ofNat_tmod _ _).symm
    have eg : Int.gcd a n = Nat.gcd a n := rfl
    rw [← k3] at r0
    rw [← k4] at r1
    clear k3 k4
    by_cases hg : Nat.gcd a n = 1
    · by_cases c0 : (a * a + 1) % n = 0
      · rw [if_pos c0] at r0
        by_cases c1 : (a * a + a + 1) % n = 0
        · rw [if_pos c1] at r1
          repeat' (conv => whnf
                   first
                     | (refine Ob.mk (by (first | omega | (simp only [InK]; omega) | exact ⟨by omega, tdivIn (by omega) (by omega)⟩ | exact ⟨by first | omega | (simp only [InK]; omega), by first | omega | (simp only [InK]; omega)⟩)) ?_)
                     | (refine Cases.yes (by (first | assumption | exact decide_eq_true (by first | assumption | omega) | exact congrArg (!·) (decide_eq_false (by first | assumption | omega)) | exact congrArg (!·) (show _ = false by assumption) | rfl)) ?_)
                     | (refine Cases.no (by (first | assumption | exact decide_eq_false (by first | assumption | omega) | exact congrArg (!·) (decide_eq_true (by first | assumption | omega)) | exact congrArg (!·) (show _ = true by assumption) | rfl)) ?_)
                     | (refine Idx.mk ⟨_, rfl, by first | assumption | omega, ?_⟩)
                     | (refine Idx.mk ⟨0, rfl, by omega, ?_⟩)
                     | (refine DrawOb.start ?_)
                     | (refine TryF.fast rfl (by decide +kernel) (by kernel_rfl) ?_)
                     | (refine TryF.next rfl ?_)
                     | (refine TryF.other ?_)
                     | (refine TryG.go rfl (by decide +kernel) (by kernel_rfl) ?_)
                     | (refine TryG.next rfl ?_)
                     | (refine Sp.call (gcd18_sp a n (by omega) (by omega) (by omega) (by omega)) (ArgsLe.refl _) rfl (AvLe.refl _) ?_)
                     | (refine Sp.call (kron28_sp D a (by omega) (by omega) (by omega) (by omega)) (ArgsLe.refl _) rfl (AvLe.refl _) ?_))
          exact ⟨(a + 1, x + jac D a, y + 2 * jac D a), [], ⟨by omega, by omega, r0.symm, r1.symm⟩, by show n + 1 - (a + 1) < n + 1 - a; omega, (by refine ⟨?_, ?_, rfl⟩ <;> repeat (first | exact TmE.nil | exact OwnE.nil | refine TmE.cons (by first | exact AvLe.refl _ | exact AvLe.int (by omega) | exact AvLe.bool (by first | rfl | assumption)) ?_ | refine OwnE.cons rfl (BlkLe.refl _) ?_ | refine OwnE.cons rfl BlkLe.zero ?_))⟩
        · rw [if_neg c1, Int.add_zero] at r1
          repeat' (conv => whnf
                   first
                     | (refine Ob.mk (by (first | omega | (simp only [InK]; omega) | exact ⟨by omega, tdivIn (by omega) (by omega)⟩ | exact ⟨by first | omega | (simp only [InK]; omega), by first | omega | (simp only [InK]; omega)⟩)) ?_)
                     | (refine Cases.yes (by (first | assumption | exact decide_eq_true (by first | assumption | omega) | exact congrArg (!·) (decide_eq_false (by first | assumption | omega)) | exact congrArg (!·) (show _ = false by assumption) | rfl)) ?_)
                     | (refine Cases.no (by (first | assumption | exact decide_eq_false (by first | assumption | omega) | exact congrArg (!·) (decide_eq_true (by first | assumption | omega)) | exact congrArg (!·) (show _ = true by assumption) | rfl)) ?_)
                     | (refine Idx.mk ⟨_, rfl, by first | assumption | omega, ?_⟩)
                     | (refine Idx.mk ⟨0, rfl, by omega, ?_⟩)
                     | (refine DrawOb.start ?_)
                     | (refine TryF.fast rfl (by decide +kernel) (by kernel_rfl) ?_)
                     | (refine TryF.next rfl ?_)
                     | (refine TryF.other ?_)
                     | (refine TryG.go rfl (by decide +kernel) (by kernel_rfl) ?_)
                     | (refine TryG.next rfl ?_)
                     | (refine Sp.call (gcd18_sp a n (by omega) (by omega) (by omega) (by omega)) (ArgsLe.refl _) rfl (AvLe.refl _) ?_)
                     | (refine Sp.call (kron28_sp D a (by omega) (by omega) (by omega) (by omega)) (ArgsLe.refl _) rfl (AvLe.refl _) ?_))
          exact ⟨(a + 1, x + jac D a, y), [], ⟨by omega, by omega, r0.symm, r1.symm⟩, by show n + 1 - (a + 1) < n + 1 - a; omega, (by refine ⟨?_, ?_, rfl⟩ <;> repeat (first | exact TmE.nil | exact OwnE.nil | refine TmE.cons (by first | exact AvLe.refl _ | exact AvLe.int (by omega) | exact AvLe.bool (by first | rfl | assumption)) ?_ | refine OwnE.cons rfl (BlkLe.refl _) ?_ | refine OwnE.cons rfl BlkLe.zero ?_))⟩
      · rw [if_neg c0, Int.add_zero] at r0
        by_cases c1 : (a * a + a + 1) % n = 0
        · rw [if_pos c1] at r1
          repeat' (conv => whnf
                   first
                     | (refine Ob.mk (by (first | omega | (simp only [InK]; omega) | exact ⟨by omega, tdivIn (by omega) (by omega)⟩ | exact ⟨by first | omega | (simp only [InK]; omega), by first | omega | (simp only [InK]; omega)⟩)) ?_)
                     | (refine Cases.yes (by (first | assumption | exact decide_eq_true (by first | assumption | omega) | exact congrArg (!·) (decide_eq_false (by first | assumption | omega)) | exact congrArg (!·) (show _ = false by assumption) | rfl)) ?_)
                     | (refine Cases.no (by (first | assumption | exact decide_eq_false (by first | assumption | omega) | exact congrArg (!·) (decide_eq_true (by first | assumption | omega)) | exact congrArg (!·) (show _ = true by assumption) | rfl)) ?_)
                     | (refine Idx.mk ⟨_, rfl, by first | assumption | omega, ?_⟩)
                     | (refine Idx.mk ⟨0, rfl, by omega, ?_⟩)
                     | (refine DrawOb.start ?_)
                     | (refine TryF.fast rfl (by decide +kernel) (by kernel_rfl) ?_)
                     | (refine TryF.next rfl ?_)
                     | (refine TryF.other ?_)
                     | (refine TryG.go rfl (by decide +kernel) (by kernel_rfl) ?_)
                     | (refine TryG.next rfl ?_)
                     | (refine Sp.call (gcd18_sp a n (by omega) (by omega) (by omega) (by omega)) (ArgsLe.refl _) rfl (AvLe.refl _) ?_)
                     | (refine Sp.call (kron28_sp D a (by omega) (by omega) (by omega) (by omega)) (ArgsLe.refl _) rfl (AvLe.refl _) ?_))
          exact ⟨(a + 1, x, y + 2 * jac D a), [], ⟨by omega, by omega, r0.symm, r1.symm⟩, by show n + 1 - (a + 1) < n + 1 - a; omega, (by refine ⟨?_, ?_, rfl⟩ <;> repeat (first | exact TmE.nil | exact OwnE.nil | refine TmE.cons (by first | exact AvLe.refl _ | exact AvLe.int (by omega) | exact AvLe.bool (by first | rfl | assumption)) ?_ | refine OwnE.cons rfl (BlkLe.refl _) ?_ | refine OwnE.cons rfl BlkLe.zero ?_))⟩
        · rw [if_neg c1, Int.add_zero] at r1
          repeat' (conv => whnf
                   first
                     | (refine Ob.mk (by (first | omega | (simp only [InK]; omega) | exact ⟨by omega, tdivIn (by omega) (by omega)⟩ | exact ⟨by first | omega | (simp only [InK]; omega), by first | omega | (simp only [InK]; omega)⟩)) ?_)
                     | (refine Cases.yes (by (first | assumption | exact decide_eq_true (by first | assumption | omega) | exact congrArg (!·) (decide_eq_false (by first | assumption | omega)) | exact congrArg (!·) (show _ = false by assumption) | rfl)) ?_)
                     | (refine Cases.no (by (first | assumption | exact decide_eq_false (by first | assumption | omega) | exact congrArg (!·) (decide_eq_true (by first | assumption | omega)) | exact congrArg (!·) (show _ = true by assumption) | rfl)) ?_)
                     | (refine Idx.mk ⟨_, rfl, by first | assumption | omega, ?_⟩)
                     | (refine Idx.mk ⟨0, rfl, by omega, ?_⟩)
                     | (refine DrawOb.start ?_)
                     | (refine TryF.fast rfl (by decide +kernel) (by kernel_rfl) ?_)
                     | (refine TryF.next rfl ?_)
                     | (refine TryF.other ?_)
                     | (refine TryG.go rfl (by decide +kernel) (by kernel_rfl) ?_)
                     | (refine TryG.next rfl ?_)
                     | (refine Sp.call (gcd18_sp a n (by omega) (by omega) (by omega) (by omega)) (ArgsLe.refl _) rfl (AvLe.refl _) ?_))
          exact ⟨(a + 1, x, y), [], ⟨by omega, by omega, r0.symm, r1.symm⟩, by show n + 1 - (a + 1) < n + 1 - a; omega, (by refine ⟨?_, ?_, rfl⟩ <;> repeat (first | exact TmE.nil | exact OwnE.nil | refine TmE.cons (by first | exact AvLe.refl _ | exact AvLe.int (by omega) | exact AvLe.bool (by first | rfl | assumption)) ?_ | refine OwnE.cons rfl (BlkLe.refl _) ?_ | refine OwnE.cons rfl BlkLe.zero ?_))⟩
    · rw [if_neg fun h => hg (root_gcd0 h), Int.add_zero] at r0
      rw [if_neg fun h => hg (root_gcd1 h), Int.add_zero] at r1
      have hg2 : Int.gcd a n ≠ 1 := hg
      repeat' (conv => whnf
               first
                 | (refine Ob.mk (by (first | omega | (simp only [InK]; omega) | exact ⟨by omega, tdivIn (by omega) (by omega)⟩ | exact ⟨by first | omega | (simp only [InK]; omega), by first | omega | (simp only [InK]; omega)⟩)) ?_)
                 | (refine Cases.yes (by (first | assumption | exact decide_eq_true (by first | assumption | omega) | exact congrArg (!·) (decide_eq_false (by first | assumption | omega)) | exact congrArg (!·) (show _ = false by assumption) | rfl)) ?_)
                 | (refine Cases.no (by (first | assumption | exact decide_eq_false (by first | assumption | omega) | exact congrArg (!·) (decide_eq_true (by first | assumption | omega)) | exact congrArg (!·) (show _ = true by assumption) | rfl)) ?_)
                 | (refine Idx.mk ⟨_, rfl, by first | assumption | omega, ?_⟩)
                 | (refine Idx.mk ⟨0, rfl, by omega, ?_⟩)
                 | (refine DrawOb.start ?_)
                 | (refine TryF.fast rfl (by decide +kernel) (by kernel_rfl) ?_)
                 | (refine TryF.next rfl ?_)
                 | (refine TryF.other ?_)
                 | (refine TryG.go rfl (by decide +kernel) (by kernel_rfl) ?_)
                 | (refine TryG.next rfl ?_)
                 | (refine Sp.call (gcd18_sp a n (by omega) (by omega) (by omega) (by omega)) (ArgsLe.refl _) rfl (AvLe.refl _) ?_))
      exact ⟨(a + 1, x, y), [], ⟨by omega, by omega, r0.symm, r1.symm⟩, by show n + 1 - (a + 1) < n + 1 - a; omega, (by refine ⟨?_, ?_, rfl⟩ <;> repeat (first | exact TmE.nil | exact OwnE.nil | refine TmE.cons (by first | exact AvLe.refl _ | exact AvLe.int (by omega) | exact AvLe.bool (by first | rfl | assumption)) ?_ | refine OwnE.cons rfl (BlkLe.refl _) ?_ | refine OwnE.cons rfl BlkLe.zero ?_))⟩
  · obtain rfl : a = n + 1 := by omega
    have hf0 : 1 ≤ D.natAbs := by omega
    have hf : D.natAbs ≤ 120 := by omega
    have f1 := four_bd D n 0 n
    have f2 := three_bd D n 1 n
    simp only [Nat.add_sub_cancel] at k3 k4
    rw [k3, k4]
    clear b1 b2 k3 k4
    repeat' (conv => whnf
             first
               | (refine Ob.mk (by (first | omega | (simp only [InK]; omega) | exact ⟨by omega, tdivIn (by omega) (by omega)⟩ | exact ⟨by first | omega | (simp only [InK]; omega), by first | omega | (simp only [InK]; omega)⟩)) ?_)
               | (refine Cases.yes (by (first | assumption | exact decide_eq_true (by first | assumption | omega) | exact congrArg (!·) (decide_eq_false (by first | assumption | omega)) | exact congrArg (!·) (show _ = false by assumption) | rfl)) ?_)
               | (refine Cases.no (by (first | assumption | exact decide_eq_false (by first | assumption | omega) | exact congrArg (!·) (decide_eq_true (by first | assumption | omega)) | exact congrArg (!·) (show _ = true by assumption) | rfl)) ?_)
               | (refine Idx.mk ⟨_, rfl, by first | assumption | omega, ?_⟩)
               | (refine Idx.mk ⟨0, rfl, by omega, ?_⟩)
               | (refine DrawOb.start ?_)
               | (refine TryF.fast rfl (by decide +kernel) (by kernel_rfl) ?_)
               | (refine TryF.next rfl ?_)
               | (refine TryF.other ?_)
               | (refine TryG.go rfl (by decide +kernel) (by kernel_rfl) ?_)
               | (refine TryG.next rfl ?_)
               | (refine Sp.call (formula_sp n k D.natAbs (rootR n 0 (fun a => jac D a) n) (rootR n 1 (fun a => 2 * jac D a) n) hn0 hn hf0 hf hfn hk hk2 (by omega) (by omega) (by omega) (by omega)) (.cons (.refl _) (.cons (.refl _) (.cons (AvLe.int (by split <;> (try simp only [cond_true, cond_false]) <;> omega)) (.cons (.refl _) (.cons (.refl _) .nil))))) rfl (AvLe.refl _) ?_))
    refine ⟨⟨_, _, rfl, rfl, AvLe.int ?_⟩⟩
    rfl
set_option maxHeartbeats 4000000 in
theorem eisr_sp (n k : Nat) (D : Int) (hn0 : 1 ≤ n) (hn : n ≤ 120) (h0 : D ≠ 0) (h4 : D % 4 = 0 ∨ D % 4 = 1) (hD : -120 ≤ D) (hD2 : D ≤ 120) (hfn : D.natAbs ∣ n) (hk : 2 ≤ k) (hk2 : k ≤ 24) : Sp CX 26 [specA n k D] (int .i64 (lam D.natAbs n - if k = 2 ∧ D.natAbs = 1 then 1 else 0)) := by
  refine fn_sp (C := CX) [] [] tysX_ok mixed Tryd.func26 rfl (by kernel_rfl) Tryd.ntmps26 rfl rfl ?_
  have hf0 : 1 ≤ D.natAbs := by omega
  have hf : D.natAbs ≤ 120 := by omega
  have hl := lam_small (f := D.natAbs) hn0 hn
  by_cases c : k = 2 ∧ D = 1
  · obtain ⟨rfl, rfl⟩ := c
    have hl1 := lam_small (f := 1) hn0 hn
    repeat' (conv => whnf
             first
               | (refine Ob.mk (by (first | omega | (simp only [InK]; omega) | exact ⟨by omega, tdivIn (by omega) (by omega)⟩ | exact ⟨by first | omega | (simp only [InK]; omega), by first | omega | (simp only [InK]; omega)⟩)) ?_)
               | (refine Cases.yes (by (first | assumption | exact decide_eq_true (by first | assumption | omega) | exact congrArg (!·) (decide_eq_false (by first | assumption | omega)) | exact congrArg (!·) (show _ = false by assumption) | rfl)) ?_)
               | (refine Cases.no (by (first | assumption | exact decide_eq_false (by first | assumption | omega) | exact congrArg (!·) (decide_eq_true (by first | assumption | omega)) | exact congrArg (!·) (show _ = true by assumption) | rfl)) ?_)
               | (refine Idx.mk ⟨_, rfl, by first | assumption | omega, ?_⟩)
               | (refine Idx.mk ⟨0, rfl, by omega, ?_⟩)
               | (refine DrawOb.start ?_)
               | (refine TryF.fast rfl (by decide +kernel) (by kernel_rfl) ?_)
               | (refine TryF.next rfl ?_)
               | (refine TryF.other ?_)
               | (refine TryG.go rfl (by decide +kernel) (by kernel_rfl) ?_)
               | (refine TryG.next rfl ?_)
               | (refine Sp.call (rlam_sp n 1 (by omega) (by omega) (by omega) (by omega) (Nat.one_dvd n)) (ArgsLe.refl _) rfl (AvLe.refl _) ?_))
    refine ⟨⟨_, _, rfl, rfl, AvLe.int ?_⟩⟩
    rfl
  · rw [if_neg fun h => c ⟨h.1, by omega⟩]
    by_cases c2 : k = 2
    · have c3 : D ≠ 1 := fun h => c ⟨c2, h⟩
      repeat' (conv => whnf
               first
                 | (refine Ob.mk (by (first | omega | (simp only [InK]; omega) | exact ⟨by omega, tdivIn (by omega) (by omega)⟩ | exact ⟨by first | omega | (simp only [InK]; omega), by first | omega | (simp only [InK]; omega)⟩)) ?_)
                 | (refine Cases.yes (by (first | assumption | exact decide_eq_true (by first | assumption | omega) | exact congrArg (!·) (decide_eq_false (by first | assumption | omega)) | exact congrArg (!·) (show _ = false by assumption) | rfl)) ?_)
                 | (refine Cases.no (by (first | assumption | exact decide_eq_false (by first | assumption | omega) | exact congrArg (!·) (decide_eq_true (by first | assumption | omega)) | exact congrArg (!·) (show _ = true by assumption) | rfl)) ?_)
                 | (refine Idx.mk ⟨_, rfl, by first | assumption | omega, ?_⟩)
                 | (refine Idx.mk ⟨0, rfl, by omega, ?_⟩)
                 | (refine DrawOb.start ?_)
                 | (refine TryF.fast rfl (by decide +kernel) (by kernel_rfl) ?_)
                 | (refine TryF.next rfl ?_)
                 | (refine TryF.other ?_)
                 | (refine TryG.go rfl (by decide +kernel) (by kernel_rfl) ?_)
                 | (refine TryG.next rfl ?_)
                 | (refine Sp.call (rlam_sp n D.natAbs (by omega) (by omega) (by omega) (by omega) hfn) (.cons (.refl _) (.cons (AvLe.int (by split <;> (try simp only [cond_true, cond_false]) <;> omega)) .nil)) rfl (AvLe.refl _) ?_))
      refine ⟨⟨_, _, rfl, rfl, AvLe.int ?_⟩⟩
      omega
    · repeat' (conv => whnf
               first
                 | (refine Ob.mk (by (first | omega | (simp only [InK]; omega) | exact ⟨by omega, tdivIn (by omega) (by omega)⟩ | exact ⟨by first | omega | (simp only [InK]; omega), by first | omega | (simp only [InK]; omega)⟩)) ?_)
                 | (refine Cases.yes (by (first | assumption | exact decide_eq_true (by first | assumption | omega) | exact congrArg (!·) (decide_eq_false (by first | assumption | omega)) | exact congrArg (!·) (show _ = false by assumption) | rfl)) ?_)
                 | (refine Cases.no (by (first | assumption | exact decide_eq_false (by first | assumption | omega) | exact congrArg (!·) (decide_eq_true (by first | assumption | omega)) | exact congrArg (!·) (show _ = true by assumption) | rfl)) ?_)
                 | (refine Idx.mk ⟨_, rfl, by first | assumption | omega, ?_⟩)
                 | (refine Idx.mk ⟨0, rfl, by omega, ?_⟩)
                 | (refine DrawOb.start ?_)
                 | (refine TryF.fast rfl (by decide +kernel) (by kernel_rfl) ?_)
                 | (refine TryF.next rfl ?_)
                 | (refine TryF.other ?_)
                 | (refine TryG.go rfl (by decide +kernel) (by kernel_rfl) ?_)
                 | (refine TryG.next rfl ?_)
                 | (refine Sp.call (rlam_sp n D.natAbs (by omega) (by omega) (by omega) (by omega) hfn) (.cons (.refl _) (.cons (AvLe.int (by split <;> (try simp only [cond_true, cond_false]) <;> omega)) .nil)) rfl (AvLe.refl _) ?_))
      refine ⟨⟨_, _, rfl, rfl, AvLe.int ?_⟩⟩
      omega
theorem sturmr_sp (n k : Nat) (D : Int) (hn0 : 1 ≤ n) (hn : n ≤ 120) (hk2 : k ≤ 24) : Sp CX 14 [specA n k D] (int .i64 (((k : Int) * psi n).tdiv 12)) := by
  refine fn_sp (C := CX) [] [] tysX_ok mixed Tryd.func14 rfl (by kernel_rfl) Tryd.ntmps14 rfl rfl ?_
  have a := psi_small hn0 hn
  have b : (k : Int) * psi n ≤ 24 * 400 := Int.mul_le_mul (by omega) (by omega) (by omega) (by omega)
  have c : 0 ≤ (k : Int) * psi n := Int.mul_nonneg (by omega) (by omega)
  repeat' (conv => whnf
           first
             | (refine Ob.mk (by (first | omega | (simp only [InK]; omega) | exact ⟨by omega, tdivIn (by omega) (by omega)⟩ | exact ⟨by first | omega | (simp only [InK]; omega), by first | omega | (simp only [InK]; omega)⟩)) ?_)
             | (refine Cases.yes (by (first | assumption | exact decide_eq_true (by first | assumption | omega) | exact congrArg (!·) (decide_eq_false (by first | assumption | omega)) | exact congrArg (!·) (show _ = false by assumption) | rfl)) ?_)
             | (refine Cases.no (by (first | assumption | exact decide_eq_false (by first | assumption | omega) | exact congrArg (!·) (decide_eq_true (by first | assumption | omega)) | exact congrArg (!·) (show _ = true by assumption) | rfl)) ?_)
             | (refine Idx.mk ⟨_, rfl, by first | assumption | omega, ?_⟩)
             | (refine Idx.mk ⟨0, rfl, by omega, ?_⟩)
             | (refine DrawOb.start ?_)
             | (refine TryF.fast rfl (by decide +kernel) (by kernel_rfl) ?_)
             | (refine TryF.next rfl ?_)
             | (refine TryF.other ?_)
             | (refine TryG.go rfl (by decide +kernel) (by kernel_rfl) ?_)
             | (refine TryG.next rfl ?_)
             | (refine Sp.call (psi21_sp n (by omega) (by omega)) (ArgsLe.refl _) rfl (AvLe.refl _) ?_))
  refine ⟨⟨_, _, rfl, rfl, AvLe.int ?_⟩⟩
  rfl
end Go.Proofs.YteamlpflgfmieaaDoor

/- The reference: new forms. -/
namespace Go.Proofs.YteamlpflgfmieaaDoor
open Go Go.RowKit Go.VG HP
set_option maxHeartbeats 4000000 in
theorem newr_sp (n k : Nat) (D : Int) (hn0 : 1 ≤ n) (hn : n ≤ 120) (h0 : D ≠ 0) (hD : -120 ≤ D) (hD2 : D ≤ 120) (hk : 2 ≤ k) (hk2 : k ≤ 24) : Sp CX 27 [specA n k D] (int .i64 (newV n k D)) := by
  obtain ⟨Z, len, hZ, hlen⟩ := zOf (dvs n) 0
  have hll : len ≤ 121 := by
    rw [hlen]
    unfold dvs
    exact Nat.le_trans (List.length_filter_le _ _) (by simp; omega)
  refine fn_sp (C := CX) [(6,0)] [] tysX_ok mixed Tryd.func27 rfl (by kernel_rfl) Tryd.ntmps27 rfl rfl ?_
  repeat' (conv => whnf
           first
             | (refine Ob.mk (by (first | omega | (simp only [InK]; omega) | exact ⟨by omega, tdivIn (by omega) (by omega)⟩ | exact ⟨by first | omega | (simp only [InK]; omega), by first | omega | (simp only [InK]; omega)⟩)) ?_)
             | (refine Cases.yes (by (first | assumption | exact decide_eq_true (by first | assumption | omega) | exact congrArg (!·) (decide_eq_false (by first | assumption | omega)) | exact congrArg (!·) (show _ = false by assumption) | rfl)) ?_)
             | (refine Cases.no (by (first | assumption | exact decide_eq_false (by first | assumption | omega) | exact congrArg (!·) (decide_eq_true (by first | assumption | omega)) | exact congrArg (!·) (show _ = true by assumption) | rfl)) ?_)
             | (refine Idx.mk ⟨_, rfl, by first | assumption | omega, ?_⟩)
             | (refine Idx.mk ⟨0, rfl, by omega, ?_⟩)
             | (refine DrawOb.start ?_)
             | (refine TryF.fast rfl (by decide +kernel) (by kernel_rfl) ?_)
             | (refine TryF.next rfl ?_)
             | (refine TryF.other ?_)
             | (refine TryG.go rfl (by decide +kernel) (by kernel_rfl) ?_)
             | (refine TryG.next rfl ?_)
             | (refine Sp.call (divisors20_sp n Z len (fun i x => hZ i x) hlen hn0 (by omega)) (ArgsLe.refl _) rfl (AvLe.refl _) ?_))
  refine ⟨⟨Nat × Int, fun (i, s) => ⟨[(1, .v (.c (.loc 0 0))), (3, int .i64 s), (4, .v (.c (.sl 1 Nat (fun z _ => ix z) Z len))), (5, int .i64 i)], [(0, .st [ix n, ix k, ix D])], 1⟩, fun (i, s) => i ≤ len ∧ s = sumG (newG n k D) ((dvs n).take i), fun (i, _) => len - i, ⟨(0, 0), [], ⟨Nat.zero_le _, rfl⟩, (by refine ⟨?_, ?_, rfl⟩ <;> repeat (first | exact TmE.nil | exact OwnE.nil | refine TmE.cons (by first | exact AvLe.refl _ | exact AvLe.int (by omega) | exact AvLe.bool (by first | rfl | assumption)) ?_ | refine OwnE.cons rfl (BlkLe.refl _) ?_ | refine OwnE.cons rfl BlkLe.zero ?_))⟩, ?_⟩⟩
  rintro ⟨i, s⟩ ⟨k1, k2⟩
  have b0 := newS_bd D hn0 hn (show 1 ≤ k by omega) hk2 i
  rw [← k2] at b0
  by_cases hd : i < len
  · have hat : (dvs n)[i]? = some (Z i) := by
      have h := List.getElem?_eq_getElem (l := dvs n) (i := i) (by omega)
      rw [h, hZ i _ h]
    have hdv : Z i ∣ n := (dvs_mem hn0).1 (List.mem_of_getElem? hat)
    have hs := sumG_next (newG n k D) hat
    rw [← k2] at hs
    have hb := newG_bd D hn0 hn (show 1 ≤ k by omega) hk2 hdv
    have hz1 := Nat.pos_of_dvd_of_pos hdv hn0
    have hz2 := Nat.le_of_dvd hn0 hdv
    have hq1 : 0 < n / Z i := Nat.div_pos hz2 hz1
    have hq2 := Nat.div_le_self n (Z i)
    have eq : (n : Int).tdiv (Z i) = ((n / Z i : Nat) : Int) := (Int.ofNat_tdiv n (Z i)).symm
    by_cases c : D.natAbs ∣ Z i
    · have ct : (Z i : Int).tmod D = 0 := Int.tmod_eq_zero_of_dvd (by rw [← Int.natAbs_dvd_natAbs]; simpa using c)
      have e : newG n k D (Z i) = bet (n / Z i) * cuspV (Z i) k D := by unfold newG; rw [if_pos c]
      rw [e] at hs hb
      have hb1 := bet_sm hq1 (show n / Z i ≤ 120 by omega)
      have hb2 := cuspV_bd D hz1 (show Z i ≤ 120 by omega) (show 1 ≤ k by omega) hk2
      clear k2
      have hct : decide ((Z i : Int).tmod D = 0) = true := decide_eq_true ct
      repeat' (conv => whnf
               first
                 | (refine Ob.mk (by (first | omega | (simp only [InK]; omega) | exact ⟨by omega, tdivIn (by omega) (by omega)⟩ | exact ⟨by first | omega | (simp only [InK]; omega), by first | omega | (simp only [InK]; omega)⟩)) ?_)
                 | (refine Cases.yes (by (first | assumption | exact decide_eq_true (by first | assumption | omega) | exact congrArg (!·) (decide_eq_false (by first | assumption | omega)) | exact congrArg (!·) (show _ = false by assumption) | rfl)) ?_)
                 | (refine Cases.no (by (first | assumption | exact decide_eq_false (by first | assumption | omega) | exact congrArg (!·) (decide_eq_true (by first | assumption | omega)) | exact congrArg (!·) (show _ = true by assumption) | rfl)) ?_)
                 | (refine Idx.mk ⟨_, rfl, by first | assumption | omega, ?_⟩)
                 | (refine Idx.mk ⟨0, rfl, by omega, ?_⟩)
                 | (refine DrawOb.start ?_)
                 | (refine TryF.fast rfl (by decide +kernel) (by kernel_rfl) ?_)
                 | (refine TryF.next rfl ?_)
                 | (refine TryF.other ?_)
                 | (refine TryG.go rfl (by decide +kernel) (by kernel_rfl) ?_)
                 | (refine TryG.next rfl ?_))
      refine ⟨⟨Unit, fun _ => ⟨[(1, .v (.c (.loc 0 0))), (3, int .i64 s), (4, .v (.c (.sl 1 Nat (fun z _ => ix z) Z len))), (5, int .i64 i), (22, bool true)], [(0, .st [ix n, ix k, ix D])], 1⟩, fun _ => True, ?_, ?_⟩⟩
      · repeat' (conv => whnf
                 first
                   | (refine Ob.mk (by (first | omega | (simp only [InK]; omega) | exact ⟨by omega, tdivIn (by omega) (by omega)⟩ | exact ⟨by first | omega | (simp only [InK]; omega), by first | omega | (simp only [InK]; omega)⟩)) ?_)
                   | (refine Cases.yes (by (first | assumption | exact decide_eq_true (by first | assumption | omega) | exact congrArg (!·) (decide_eq_false (by first | assumption | omega)) | exact congrArg (!·) (show _ = false by assumption) | rfl)) ?_)
                   | (refine Cases.no (by (first | assumption | exact decide_eq_false (by first | assumption | omega) | exact congrArg (!·) (decide_eq_true (by first | assumption | omega)) | exact congrArg (!·) (show _ = true by assumption) | rfl)) ?_)
                   | (refine Idx.mk ⟨_, rfl, by first | assumption | omega, ?_⟩)
                   | (refine Idx.mk ⟨0, rfl, by omega, ?_⟩)
                   | (refine DrawOb.start ?_)
                   | (refine TryF.fast rfl (by decide +kernel) (by kernel_rfl) ?_)
                   | (refine TryF.next rfl ?_)
                   | (refine TryF.other ?_)
                   | (refine TryG.go rfl (by decide +kernel) (by kernel_rfl) ?_)
                   | (refine TryG.next rfl ?_))
        exact ⟨(), [], trivial, (by refine ⟨?_, ?_, rfl⟩ <;> repeat (first | exact TmE.nil | exact OwnE.nil | refine TmE.cons (by first | exact AvLe.refl _ | exact AvLe.int (by omega) | exact AvLe.bool (by first | rfl | assumption)) ?_ | refine OwnE.cons rfl (BlkLe.refl _) ?_ | refine OwnE.cons rfl BlkLe.zero ?_))⟩
      rintro - -
      repeat' (conv => whnf
               first
                 | (refine Ob.mk (by (first | omega | (simp only [InK]; omega) | exact ⟨by omega, tdivIn (by omega) (by omega)⟩ | exact ⟨by first | omega | (simp only [InK]; omega), by first | omega | (simp only [InK]; omega)⟩)) ?_)
                 | (refine Cases.yes (by (first | assumption | exact decide_eq_true (by first | assumption | omega) | exact congrArg (!·) (decide_eq_false (by first | assumption | omega)) | exact congrArg (!·) (show _ = false by assumption) | rfl)) ?_)
                 | (refine Cases.no (by (first | assumption | exact decide_eq_false (by first | assumption | omega) | exact congrArg (!·) (decide_eq_true (by first | assumption | omega)) | exact congrArg (!·) (show _ = true by assumption) | rfl)) ?_)
                 | (refine Idx.mk ⟨_, rfl, by first | assumption | omega, ?_⟩)
                 | (refine Idx.mk ⟨0, rfl, by omega, ?_⟩)
                 | (refine DrawOb.start ?_)
                 | (refine TryF.fast rfl (by decide +kernel) (by kernel_rfl) ?_)
                 | (refine TryF.next rfl ?_)
                 | (refine TryF.other ?_)
                 | (refine TryG.go rfl (by decide +kernel) (by kernel_rfl) ?_)
                 | (refine TryG.next rfl ?_)
                 | (refine Sp.call (beta31_sp (n / Z i) (by omega) (by omega)) (.cons (AvLe.int (by omega)) .nil) rfl (AvLe.refl _) ?_)
                 | (refine Sp.call (cuspr_sp (Z i) k D (by omega) (by omega) h0 hD hD2 c hk hk2) (ArgsLe.refl _) rfl (AvLe.refl _) ?_))
      exact ⟨(i + 1, s + bet (n / Z i) * cuspV (Z i) k D), [], ⟨hd, hs.symm⟩, by show len - (i + 1) < len - i; omega, (by refine ⟨?_, ?_, rfl⟩ <;> repeat (first | exact TmE.nil | exact OwnE.nil | refine TmE.cons (by first | exact AvLe.refl _ | exact AvLe.int (by omega) | exact AvLe.bool (by first | rfl | assumption)) ?_ | refine OwnE.cons rfl (BlkLe.refl _) ?_ | refine OwnE.cons rfl BlkLe.zero ?_))⟩
    · have ct : (Z i : Int).tmod D ≠ 0 := fun h => c (by
        have := Int.dvd_of_tmod_eq_zero h
        rw [← Int.natAbs_dvd_natAbs] at this
        simpa using this)
      have e : newG n k D (Z i) = 0 := by unfold newG; rw [if_neg c]
      rw [e, Int.add_zero] at hs
      clear k2
      have hct : decide ((Z i : Int).tmod D = 0) = false := decide_eq_false ct
      repeat' (conv => whnf
               first
                 | (refine Ob.mk (by (first | omega | (simp only [InK]; omega) | exact ⟨by omega, tdivIn (by omega) (by omega)⟩ | exact ⟨by first | omega | (simp only [InK]; omega), by first | omega | (simp only [InK]; omega)⟩)) ?_)
                 | (refine Cases.yes (by (first | assumption | exact decide_eq_true (by first | assumption | omega) | exact congrArg (!·) (decide_eq_false (by first | assumption | omega)) | exact congrArg (!·) (show _ = false by assumption) | rfl)) ?_)
                 | (refine Cases.no (by (first | assumption | exact decide_eq_false (by first | assumption | omega) | exact congrArg (!·) (decide_eq_true (by first | assumption | omega)) | exact congrArg (!·) (show _ = true by assumption) | rfl)) ?_)
                 | (refine Idx.mk ⟨_, rfl, by first | assumption | omega, ?_⟩)
                 | (refine Idx.mk ⟨0, rfl, by omega, ?_⟩)
                 | (refine DrawOb.start ?_)
                 | (refine TryF.fast rfl (by decide +kernel) (by kernel_rfl) ?_)
                 | (refine TryF.next rfl ?_)
                 | (refine TryF.other ?_)
                 | (refine TryG.go rfl (by decide +kernel) (by kernel_rfl) ?_)
                 | (refine TryG.next rfl ?_))
      refine ⟨⟨Unit, fun _ => ⟨[(1, .v (.c (.loc 0 0))), (3, int .i64 s), (4, .v (.c (.sl 1 Nat (fun z _ => ix z) Z len))), (5, int .i64 i), (22, bool false)], [(0, .st [ix n, ix k, ix D])], 1⟩, fun _ => True, ?_, ?_⟩⟩
      · repeat' (conv => whnf
                 first
                   | (refine Ob.mk (by (first | omega | (simp only [InK]; omega) | exact ⟨by omega, tdivIn (by omega) (by omega)⟩ | exact ⟨by first | omega | (simp only [InK]; omega), by first | omega | (simp only [InK]; omega)⟩)) ?_)
                   | (refine Cases.yes (by (first | assumption | exact decide_eq_true (by first | assumption | omega) | exact congrArg (!·) (decide_eq_false (by first | assumption | omega)) | exact congrArg (!·) (show _ = false by assumption) | rfl)) ?_)
                   | (refine Cases.no (by (first | assumption | exact decide_eq_false (by first | assumption | omega) | exact congrArg (!·) (decide_eq_true (by first | assumption | omega)) | exact congrArg (!·) (show _ = true by assumption) | rfl)) ?_)
                   | (refine Idx.mk ⟨_, rfl, by first | assumption | omega, ?_⟩)
                   | (refine Idx.mk ⟨0, rfl, by omega, ?_⟩)
                   | (refine DrawOb.start ?_)
                   | (refine TryF.fast rfl (by decide +kernel) (by kernel_rfl) ?_)
                   | (refine TryF.next rfl ?_)
                   | (refine TryF.other ?_)
                   | (refine TryG.go rfl (by decide +kernel) (by kernel_rfl) ?_)
                   | (refine TryG.next rfl ?_))
        exact ⟨(), [], trivial, (by refine ⟨?_, ?_, rfl⟩ <;> repeat (first | exact TmE.nil | exact OwnE.nil | refine TmE.cons (by first | exact AvLe.refl _ | exact AvLe.int (by omega) | exact AvLe.bool (by first | rfl | assumption)) ?_ | refine OwnE.cons rfl (BlkLe.refl _) ?_ | refine OwnE.cons rfl BlkLe.zero ?_))⟩
      rintro - -
      repeat' (conv => whnf
               first
                 | (refine Ob.mk (by (first | omega | (simp only [InK]; omega) | exact ⟨by omega, tdivIn (by omega) (by omega)⟩ | exact ⟨by first | omega | (simp only [InK]; omega), by first | omega | (simp only [InK]; omega)⟩)) ?_)
                 | (refine Cases.yes (by (first | assumption | exact decide_eq_true (by first | assumption | omega) | exact congrArg (!·) (decide_eq_false (by first | assumption | omega)) | exact congrArg (!·) (show _ = false by assumption) | rfl)) ?_)
                 | (refine Cases.no (by (first | assumption | exact decide_eq_false (by first | assumption | omega) | exact congrArg (!·) (decide_eq_true (by first | assumption | omega)) | exact congrArg (!·) (show _ = true by assumption) | rfl)) ?_)
                 | (refine Idx.mk ⟨_, rfl, by first | assumption | omega, ?_⟩)
                 | (refine Idx.mk ⟨0, rfl, by omega, ?_⟩)
                 | (refine DrawOb.start ?_)
                 | (refine TryF.fast rfl (by decide +kernel) (by kernel_rfl) ?_)
                 | (refine TryF.next rfl ?_)
                 | (refine TryF.other ?_)
                 | (refine TryG.go rfl (by decide +kernel) (by kernel_rfl) ?_)
                 | (refine TryG.next rfl ?_))
      exact ⟨(i + 1, s), [], ⟨hd, hs.symm⟩, by show len - (i + 1) < len - i; omega, (by refine ⟨?_, ?_, rfl⟩ <;> repeat (first | exact TmE.nil | exact OwnE.nil | refine TmE.cons (by first | exact AvLe.refl _ | exact AvLe.int (by omega) | exact AvLe.bool (by first | rfl | assumption)) ?_ | refine OwnE.cons rfl (BlkLe.refl _) ?_ | refine OwnE.cons rfl BlkLe.zero ?_))⟩
  · obtain rfl : i = len := by omega
    repeat' (conv => whnf
             first
               | (refine Ob.mk (by (first | omega | (simp only [InK]; omega) | exact ⟨by omega, tdivIn (by omega) (by omega)⟩ | exact ⟨by first | omega | (simp only [InK]; omega), by first | omega | (simp only [InK]; omega)⟩)) ?_)
               | (refine Cases.yes (by (first | assumption | exact decide_eq_true (by first | assumption | omega) | exact congrArg (!·) (decide_eq_false (by first | assumption | omega)) | exact congrArg (!·) (show _ = false by assumption) | rfl)) ?_)
               | (refine Cases.no (by (first | assumption | exact decide_eq_false (by first | assumption | omega) | exact congrArg (!·) (decide_eq_true (by first | assumption | omega)) | exact congrArg (!·) (show _ = true by assumption) | rfl)) ?_)
               | (refine Idx.mk ⟨_, rfl, by first | assumption | omega, ?_⟩)
               | (refine Idx.mk ⟨0, rfl, by omega, ?_⟩)
               | (refine DrawOb.start ?_)
               | (refine TryF.fast rfl (by decide +kernel) (by kernel_rfl) ?_)
               | (refine TryF.next rfl ?_)
               | (refine TryF.other ?_)
               | (refine TryG.go rfl (by decide +kernel) (by kernel_rfl) ?_)
               | (refine TryG.next rfl ?_))
    refine ⟨⟨_, _, rfl, rfl, AvLe.int ?_⟩⟩
    rw [k2, hlen, List.take_length]
    rfl
end Go.Proofs.YteamlpflgfmieaaDoor

/- Spaces are checked, on both sides. -/
namespace Go.Proofs.YteamlpflgfmieaaDoor
open Go Go.RowKit Go.VG HP
/-- the error of a space -/
def dchk (L K D : Int) : Int :=
  if L < 1 ∨ 120 < L ∨ K < 2 ∨ 24 < K ∨ D < -120 ∨ 120 < D then 2
  else if ¬ (D = 1 ∨ fundB D = true) then 15
  else if L.tmod D ≠ 0 then 14
  else if ¬ (D < 0 ↔ K % 2 = 1) then 16
  else if 512 < psi L.toNat * (K - 1) then 7 else 0
theorem dchk_range {L K D : Int} (h : L < 1 ∨ 120 < L ∨ K < 2 ∨ 24 < K ∨ D < -120 ∨ 120 < D) : dchk L K D = 2 := by unfold dchk; rw [if_pos h]
theorem dchk_disc {L K D : Int} (h : ¬ (L < 1 ∨ 120 < L ∨ K < 2 ∨ 24 < K ∨ D < -120 ∨ 120 < D)) (h2 : ¬ (D = 1 ∨ fundB D = true)) : dchk L K D = 15 := by unfold dchk; rw [if_neg h, if_pos h2]
theorem dchk_lev {L K D : Int} (h : ¬ (L < 1 ∨ 120 < L ∨ K < 2 ∨ 24 < K ∨ D < -120 ∨ 120 < D)) (h2 : D = 1 ∨ fundB D = true) (h3 : L.tmod D ≠ 0) : dchk L K D = 14 := by unfold dchk; rw [if_neg h, if_neg (fun x => x h2), if_pos h3]
theorem dchk_par {L K D : Int} (h : ¬ (L < 1 ∨ 120 < L ∨ K < 2 ∨ 24 < K ∨ D < -120 ∨ 120 < D)) (h2 : D = 1 ∨ fundB D = true) (h3 : L.tmod D = 0) (h4 : ¬ (D < 0 ↔ K % 2 = 1)) : dchk L K D = 16 := by unfold dchk; rw [if_neg h, if_neg (fun x => x h2), if_neg (fun x => x h3), if_pos h4]
theorem dchk_big {L K D : Int} (h : ¬ (L < 1 ∨ 120 < L ∨ K < 2 ∨ 24 < K ∨ D < -120 ∨ 120 < D)) (h2 : D = 1 ∨ fundB D = true) (h3 : L.tmod D = 0) (h4 : D < 0 ↔ K % 2 = 1) (h5 : 512 < psi L.toNat * (K - 1)) : dchk L K D = 7 := by unfold dchk; rw [if_neg h, if_neg (fun x => x h2), if_neg (fun x => x h3), if_neg (fun x => x h4), if_pos h5]
theorem dchk_ok {L K D : Int} (h : ¬ (L < 1 ∨ 120 < L ∨ K < 2 ∨ 24 < K ∨ D < -120 ∨ 120 < D)) (h2 : D = 1 ∨ fundB D = true) (h3 : L.tmod D = 0) (h4 : D < 0 ↔ K % 2 = 1) (h5 : ¬ 512 < psi L.toNat * (K - 1)) : dchk L K D = 0 := by unfold dchk; rw [if_neg h, if_neg (fun x => x h2), if_neg (fun x => x h3), if_neg (fun x => x h4), if_neg h5]
theorem fundB_mod {D : Int} (h : D = 1 ∨ fundB D = true) : D ≠ 0 ∧ (D % 4 = 0 ∨ D % 4 = 1) := by
  rcases h with rfl | h
  · omega
  · unfold fundB at h
    split at h
    · cases h
    · simp only [Bool.or_eq_true, Bool.and_eq_true, decide_eq_true_eq] at h
      rcases h with h | h
      · omega
      · have := Int.emod_eq_zero_of_dvd (Int.dvd_of_tmod_eq_zero h.1.1)
        omega
/-- a space that is one -/
structure DOk (n k : Nat) (D : Int) : Prop where
  n0 : 1 ≤ n
  n1 : n ≤ 120
  k0 : 2 ≤ k
  k1 : k ≤ 24
  d0 : -120 ≤ D
  d1 : D ≤ 120
  dz : D ≠ 0
  d4 : D % 4 = 0 ∨ D % 4 = 1
  f : D = 1 ∨ fundB D = true
  dvd : D.natAbs ∣ n
  par : D < 0 ↔ k % 2 = 1
  big : psi n * ((k : Int) - 1) ≤ 512
theorem dchk_out {L K D : Int} (h : dchk L K D = 0) : ∃ n k : Nat, L = n ∧ K = k ∧ DOk n k D := by
  unfold dchk at h
  split at h
  · cases h
  next h1 =>
  split at h
  · cases h
  next h2 =>
  split at h
  · cases h
  next h3 =>
  split at h
  · cases h
  next h4 =>
  split at h
  · cases h
  next h5 =>
  have h2 := Decidable.of_not_not h2
  have h3 := Decidable.of_not_not h3
  have h4 := Decidable.of_not_not h4
  obtain ⟨n, rfl⟩ := Int.eq_ofNat_of_zero_le (a := L) (by omega)
  obtain ⟨k, rfl⟩ := Int.eq_ofNat_of_zero_le (a := K) (by omega)
  obtain ⟨m1, m2⟩ := fundB_mod h2
  refine ⟨n, k, rfl, rfl, by omega, by omega, by omega, by omega, by omega, by omega, m1, m2, h2, ?_, by omega, ?_⟩
  · have := Int.dvd_of_tmod_eq_zero h3
    rw [← Int.natAbs_dvd_natAbs] at this
    simpa using this
  · rw [Int.toNat_natCast] at h5
    omega
theorem DOk.chk {n k : Nat} {D : Int} (h : DOk n k D) : dchk n k D = 0 :=
  dchk_ok (by have := h.n0; have := h.n1; have := h.k0; have := h.k1; have := h.d0; have := h.d1; omega) h.f (Int.tmod_eq_zero_of_dvd (by rw [← Int.natAbs_dvd_natAbs]; simpa using h.dvd)) (by have := h.par; omega) (by rw [Int.toNat_natCast]; have := h.big; omega)
/-- the fundamental discriminants that both sides know -/
def fundC (d : Int) : Int × Int × Int :=
  if d = 0 then (0, 0, 2)
  else if 1 < d % 4 then (0, 0, 15)
  else
    let T : Int := (if d < 0 then -1 else 1) * prodL frF (facC d.natAbs)
    let S : Int := prodL sqF (facC d.natAbs)
    if T % 4 = 1 then (T, S, 0) else (4 * T, S / 2, 0)
theorem fundOut_C {d : Int} (h1 : -120 ≤ d) (h2 : d ≤ 120) : fundOut d = fundC d := by
  unfold fundOut fundC
  by_cases h0 : d = 0
  · rw [if_pos (.inl h0), if_pos h0]
  · rw [if_neg (by omega), if_neg h0]
    have hf : facs d.natAbs = facC d.natAbs := facs_C (by omega) (by omega)
    unfold fundT
    rw [hf]
    rfl
theorem okD_iff {D : Int} (h1 : -120 ≤ D) (h2 : D ≤ 120) : ((fundOut D).2.2 = 0 ∧ (fundOut D).2.1 = 1) ↔ (D = 1 ∨ fundB D = true) := by
  have h : allB 241 (fun i => (decide ((fundC ((i : Int) - 120)).2.2 = 0) && decide ((fundC ((i : Int) - 120)).2.1 = 1)) == (decide ((i : Int) - 120 = 1) || fundB ((i : Int) - 120))) = true := by decide +kernel
  obtain ⟨i, hi⟩ := Int.eq_ofNat_of_zero_le (a := D + 120) (by omega)
  have hi2 : i < 241 := by omega
  have := allB_at h hi2
  have e : (i : Int) - 120 = D := by omega
  rw [e, beq_iff_eq] at this
  rw [fundOut_C h1 h2, Bool.eq_iff_iff] at *
  simpa using this
end Go.Proofs.YteamlpflgfmieaaDoor

/- The checks of a space, walked on both sides. -/
namespace Go.Proofs.YteamlpflgfmieaaDoor
open Go Go.RowKit Go.VG HP
set_option maxHeartbeats 4000000 in
theorem checkr_sp (L K D : Int) : Sp CX 11 [specA L K D] (int .i64 (dchk L K D)) := by
  refine fn_sp (C := CX) [] [] tysX_ok mixed Tryd.func11 rfl (by kernel_rfl) Tryd.ntmps11 rfl rfl ?_
  by_cases r0 : L < 1
  · repeat' (conv => whnf
             first
               | (refine Ob.mk (by (first | omega | (simp only [InK]; omega) | exact ⟨by omega, tdivIn (by omega) (by omega)⟩ | exact ⟨by first | omega | (simp only [InK]; omega), by first | omega | (simp only [InK]; omega)⟩)) ?_)
               | (refine Cases.yes (by (first | assumption | exact decide_eq_true (by first | assumption | omega) | exact congrArg (!·) (decide_eq_false (by first | assumption | omega)) | exact congrArg (!·) (show _ = false by assumption) | rfl)) ?_)
               | (refine Cases.no (by (first | assumption | exact decide_eq_false (by first | assumption | omega) | exact congrArg (!·) (decide_eq_true (by first | assumption | omega)) | exact congrArg (!·) (show _ = true by assumption) | rfl)) ?_)
               | (refine Idx.mk ⟨_, rfl, by first | assumption | omega, ?_⟩)
               | (refine Idx.mk ⟨0, rfl, by omega, ?_⟩)
               | (refine DrawOb.start ?_)
               | (refine TryF.fast rfl (by decide +kernel) (by kernel_rfl) ?_)
               | (refine TryF.next rfl ?_)
               | (refine TryF.other ?_)
               | (refine TryG.go rfl (by decide +kernel) (by kernel_rfl) ?_)
               | (refine TryG.next rfl ?_))
    refine ⟨⟨_, _, rfl, rfl, AvLe.int ?_⟩⟩
    exact (dchk_range (by omega)).symm
  by_cases r1 : 120 < L
  · repeat' (conv => whnf
             first
               | (refine Ob.mk (by (first | omega | (simp only [InK]; omega) | exact ⟨by omega, tdivIn (by omega) (by omega)⟩ | exact ⟨by first | omega | (simp only [InK]; omega), by first | omega | (simp only [InK]; omega)⟩)) ?_)
               | (refine Cases.yes (by (first | assumption | exact decide_eq_true (by first | assumption | omega) | exact congrArg (!·) (decide_eq_false (by first | assumption | omega)) | exact congrArg (!·) (show _ = false by assumption) | rfl)) ?_)
               | (refine Cases.no (by (first | assumption | exact decide_eq_false (by first | assumption | omega) | exact congrArg (!·) (decide_eq_true (by first | assumption | omega)) | exact congrArg (!·) (show _ = true by assumption) | rfl)) ?_)
               | (refine Idx.mk ⟨_, rfl, by first | assumption | omega, ?_⟩)
               | (refine Idx.mk ⟨0, rfl, by omega, ?_⟩)
               | (refine DrawOb.start ?_)
               | (refine TryF.fast rfl (by decide +kernel) (by kernel_rfl) ?_)
               | (refine TryF.next rfl ?_)
               | (refine TryF.other ?_)
               | (refine TryG.go rfl (by decide +kernel) (by kernel_rfl) ?_)
               | (refine TryG.next rfl ?_))
    refine ⟨⟨_, _, rfl, rfl, AvLe.int ?_⟩⟩
    exact (dchk_range (by omega)).symm
  by_cases r2 : K < 2
  · repeat' (conv => whnf
             first
               | (refine Ob.mk (by (first | omega | (simp only [InK]; omega) | exact ⟨by omega, tdivIn (by omega) (by omega)⟩ | exact ⟨by first | omega | (simp only [InK]; omega), by first | omega | (simp only [InK]; omega)⟩)) ?_)
               | (refine Cases.yes (by (first | assumption | exact decide_eq_true (by first | assumption | omega) | exact congrArg (!·) (decide_eq_false (by first | assumption | omega)) | exact congrArg (!·) (show _ = false by assumption) | rfl)) ?_)
               | (refine Cases.no (by (first | assumption | exact decide_eq_false (by first | assumption | omega) | exact congrArg (!·) (decide_eq_true (by first | assumption | omega)) | exact congrArg (!·) (show _ = true by assumption) | rfl)) ?_)
               | (refine Idx.mk ⟨_, rfl, by first | assumption | omega, ?_⟩)
               | (refine Idx.mk ⟨0, rfl, by omega, ?_⟩)
               | (refine DrawOb.start ?_)
               | (refine TryF.fast rfl (by decide +kernel) (by kernel_rfl) ?_)
               | (refine TryF.next rfl ?_)
               | (refine TryF.other ?_)
               | (refine TryG.go rfl (by decide +kernel) (by kernel_rfl) ?_)
               | (refine TryG.next rfl ?_))
    refine ⟨⟨_, _, rfl, rfl, AvLe.int ?_⟩⟩
    exact (dchk_range (by omega)).symm
  by_cases r3 : 24 < K
  · repeat' (conv => whnf
             first
               | (refine Ob.mk (by (first | omega | (simp only [InK]; omega) | exact ⟨by omega, tdivIn (by omega) (by omega)⟩ | exact ⟨by first | omega | (simp only [InK]; omega), by first | omega | (simp only [InK]; omega)⟩)) ?_)
               | (refine Cases.yes (by (first | assumption | exact decide_eq_true (by first | assumption | omega) | exact congrArg (!·) (decide_eq_false (by first | assumption | omega)) | exact congrArg (!·) (show _ = false by assumption) | rfl)) ?_)
               | (refine Cases.no (by (first | assumption | exact decide_eq_false (by first | assumption | omega) | exact congrArg (!·) (decide_eq_true (by first | assumption | omega)) | exact congrArg (!·) (show _ = true by assumption) | rfl)) ?_)
               | (refine Idx.mk ⟨_, rfl, by first | assumption | omega, ?_⟩)
               | (refine Idx.mk ⟨0, rfl, by omega, ?_⟩)
               | (refine DrawOb.start ?_)
               | (refine TryF.fast rfl (by decide +kernel) (by kernel_rfl) ?_)
               | (refine TryF.next rfl ?_)
               | (refine TryF.other ?_)
               | (refine TryG.go rfl (by decide +kernel) (by kernel_rfl) ?_)
               | (refine TryG.next rfl ?_))
    refine ⟨⟨_, _, rfl, rfl, AvLe.int ?_⟩⟩
    exact (dchk_range (by omega)).symm
  by_cases r4 : D < -120
  · repeat' (conv => whnf
             first
               | (refine Ob.mk (by (first | omega | (simp only [InK]; omega) | exact ⟨by omega, tdivIn (by omega) (by omega)⟩ | exact ⟨by first | omega | (simp only [InK]; omega), by first | omega | (simp only [InK]; omega)⟩)) ?_)
               | (refine Cases.yes (by (first | assumption | exact decide_eq_true (by first | assumption | omega) | exact congrArg (!·) (decide_eq_false (by first | assumption | omega)) | exact congrArg (!·) (show _ = false by assumption) | rfl)) ?_)
               | (refine Cases.no (by (first | assumption | exact decide_eq_false (by first | assumption | omega) | exact congrArg (!·) (decide_eq_true (by first | assumption | omega)) | exact congrArg (!·) (show _ = true by assumption) | rfl)) ?_)
               | (refine Idx.mk ⟨_, rfl, by first | assumption | omega, ?_⟩)
               | (refine Idx.mk ⟨0, rfl, by omega, ?_⟩)
               | (refine DrawOb.start ?_)
               | (refine TryF.fast rfl (by decide +kernel) (by kernel_rfl) ?_)
               | (refine TryF.next rfl ?_)
               | (refine TryF.other ?_)
               | (refine TryG.go rfl (by decide +kernel) (by kernel_rfl) ?_)
               | (refine TryG.next rfl ?_))
    refine ⟨⟨_, _, rfl, rfl, AvLe.int ?_⟩⟩
    exact (dchk_range (by omega)).symm
  by_cases r5 : 120 < D
  · repeat' (conv => whnf
             first
               | (refine Ob.mk (by (first | omega | (simp only [InK]; omega) | exact ⟨by omega, tdivIn (by omega) (by omega)⟩ | exact ⟨by first | omega | (simp only [InK]; omega), by first | omega | (simp only [InK]; omega)⟩)) ?_)
               | (refine Cases.yes (by (first | assumption | exact decide_eq_true (by first | assumption | omega) | exact congrArg (!·) (decide_eq_false (by first | assumption | omega)) | exact congrArg (!·) (show _ = false by assumption) | rfl)) ?_)
               | (refine Cases.no (by (first | assumption | exact decide_eq_false (by first | assumption | omega) | exact congrArg (!·) (decide_eq_true (by first | assumption | omega)) | exact congrArg (!·) (show _ = true by assumption) | rfl)) ?_)
               | (refine Idx.mk ⟨_, rfl, by first | assumption | omega, ?_⟩)
               | (refine Idx.mk ⟨0, rfl, by omega, ?_⟩)
               | (refine DrawOb.start ?_)
               | (refine TryF.fast rfl (by decide +kernel) (by kernel_rfl) ?_)
               | (refine TryF.next rfl ?_)
               | (refine TryF.other ?_)
               | (refine TryG.go rfl (by decide +kernel) (by kernel_rfl) ?_)
               | (refine TryG.next rfl ?_))
    refine ⟨⟨_, _, rfl, rfl, AvLe.int ?_⟩⟩
    exact (dchk_range (by omega)).symm
  have hr : ¬ (L < 1 ∨ 120 < L ∨ K < 2 ∨ 24 < K ∨ D < -120 ∨ 120 < D) := by omega
  obtain ⟨n, rfl⟩ := Int.eq_ofNat_of_zero_le (a := L) (by omega)
  have ek : K.tmod 2 = K % 2 := Int.tmod_eq_emod_of_nonneg (by omega)
  obtain ⟨p1, p2⟩ := psi_small (n := n) (by omega) (by omega)
  have hm : psi n * (K - 1) ≤ 400 * 23 := Int.mul_le_mul p2 (by omega) (by omega) (by omega)
  have hm0 : 0 ≤ psi n * (K - 1) := Int.mul_nonneg (by omega) (by omega)
  have s1 := fund28_sp D (by omega) (by omega)
  by_cases c2 : D = 1 ∨ fundB D = true
  · by_cases c1 : D = 1
    · skip
      have dz := (fundB_mod c2).1
      by_cases c3 : (n : Int).tmod D = 0
      · rcases (show D < 0 ∨ 0 < D by omega) with d | d
        · exact absurd d (by omega)
        · rcases (show K % 2 = 0 ∨ K % 2 = 1 by omega) with m | m
          · have q1 : decide (0 < D) = true := decide_eq_true (by omega)
            have q2 : decide (K.tmod 2 = 0) = true := decide_eq_true (by omega)
            have q3 : (!decide (0 < D) == decide (K.tmod 2 = 0)) = false := by rw [q1, q2]; rfl
            by_cases c5 : 512 < psi n * (K - 1)
            · repeat' (conv => whnf
                       first
                         | (refine Ob.mk (by (first | omega | (simp only [InK]; omega) | exact ⟨by omega, tdivIn (by omega) (by omega)⟩ | exact ⟨by first | omega | (simp only [InK]; omega), by first | omega | (simp only [InK]; omega)⟩)) ?_)
                         | (refine Cases.yes (by (first | assumption | exact decide_eq_true (by first | assumption | omega) | exact congrArg (!·) (decide_eq_false (by first | assumption | omega)) | exact congrArg (!·) (show _ = false by assumption) | rfl)) ?_)
                         | (refine Cases.no (by (first | assumption | exact decide_eq_false (by first | assumption | omega) | exact congrArg (!·) (decide_eq_true (by first | assumption | omega)) | exact congrArg (!·) (show _ = true by assumption) | rfl)) ?_)
                         | (refine Idx.mk ⟨_, rfl, by first | assumption | omega, ?_⟩)
                         | (refine Idx.mk ⟨0, rfl, by omega, ?_⟩)
                         | (refine DrawOb.start ?_)
                         | (refine TryF.fast rfl (by decide +kernel) (by kernel_rfl) ?_)
                         | (refine TryF.next rfl ?_)
                         | (refine TryF.other ?_)
                         | (refine TryG.go rfl (by decide +kernel) (by kernel_rfl) ?_)
                         | (refine TryG.next rfl ?_)
                         | (refine Sp.call (psi21_sp n (by omega) (by omega)) (ArgsLe.refl _) rfl (AvLe.refl _) ?_))
              refine ⟨⟨_, _, rfl, rfl, AvLe.int ?_⟩⟩
              exact (dchk_big hr c2 c3 (by omega) (by rw [Int.toNat_natCast]; exact c5)).symm
            · repeat' (conv => whnf
                       first
                         | (refine Ob.mk (by (first | omega | (simp only [InK]; omega) | exact ⟨by omega, tdivIn (by omega) (by omega)⟩ | exact ⟨by first | omega | (simp only [InK]; omega), by first | omega | (simp only [InK]; omega)⟩)) ?_)
                         | (refine Cases.yes (by (first | assumption | exact decide_eq_true (by first | assumption | omega) | exact congrArg (!·) (decide_eq_false (by first | assumption | omega)) | exact congrArg (!·) (show _ = false by assumption) | rfl)) ?_)
                         | (refine Cases.no (by (first | assumption | exact decide_eq_false (by first | assumption | omega) | exact congrArg (!·) (decide_eq_true (by first | assumption | omega)) | exact congrArg (!·) (show _ = true by assumption) | rfl)) ?_)
                         | (refine Idx.mk ⟨_, rfl, by first | assumption | omega, ?_⟩)
                         | (refine Idx.mk ⟨0, rfl, by omega, ?_⟩)
                         | (refine DrawOb.start ?_)
                         | (refine TryF.fast rfl (by decide +kernel) (by kernel_rfl) ?_)
                         | (refine TryF.next rfl ?_)
                         | (refine TryF.other ?_)
                         | (refine TryG.go rfl (by decide +kernel) (by kernel_rfl) ?_)
                         | (refine TryG.next rfl ?_)
                         | (refine Sp.call (psi21_sp n (by omega) (by omega)) (ArgsLe.refl _) rfl (AvLe.refl _) ?_))
              refine ⟨⟨_, _, rfl, rfl, AvLe.int ?_⟩⟩
              exact (dchk_ok hr c2 c3 (by omega) (by rw [Int.toNat_natCast]; exact c5)).symm
          · have q1 : decide (0 < D) = true := decide_eq_true (by omega)
            have q2 : decide (K.tmod 2 = 0) = false := decide_eq_false (by omega)
            have q3 : (!decide (0 < D) == decide (K.tmod 2 = 0)) = true := by rw [q1, q2]; rfl
            repeat' (conv => whnf
                     first
                       | (refine Ob.mk (by (first | omega | (simp only [InK]; omega) | exact ⟨by omega, tdivIn (by omega) (by omega)⟩ | exact ⟨by first | omega | (simp only [InK]; omega), by first | omega | (simp only [InK]; omega)⟩)) ?_)
                       | (refine Cases.yes (by (first | assumption | exact decide_eq_true (by first | assumption | omega) | exact congrArg (!·) (decide_eq_false (by first | assumption | omega)) | exact congrArg (!·) (show _ = false by assumption) | rfl)) ?_)
                       | (refine Cases.no (by (first | assumption | exact decide_eq_false (by first | assumption | omega) | exact congrArg (!·) (decide_eq_true (by first | assumption | omega)) | exact congrArg (!·) (show _ = true by assumption) | rfl)) ?_)
                       | (refine Idx.mk ⟨_, rfl, by first | assumption | omega, ?_⟩)
                       | (refine Idx.mk ⟨0, rfl, by omega, ?_⟩)
                       | (refine DrawOb.start ?_)
                       | (refine TryF.fast rfl (by decide +kernel) (by kernel_rfl) ?_)
                       | (refine TryF.next rfl ?_)
                       | (refine TryF.other ?_)
                       | (refine TryG.go rfl (by decide +kernel) (by kernel_rfl) ?_)
                       | (refine TryG.next rfl ?_))
            refine ⟨⟨_, _, rfl, rfl, AvLe.int ?_⟩⟩
            exact (dchk_par hr c2 c3 (by omega)).symm
      · repeat' (conv => whnf
                 first
                   | (refine Ob.mk (by (first | omega | (simp only [InK]; omega) | exact ⟨by omega, tdivIn (by omega) (by omega)⟩ | exact ⟨by first | omega | (simp only [InK]; omega), by first | omega | (simp only [InK]; omega)⟩)) ?_)
                   | (refine Cases.yes (by (first | assumption | exact decide_eq_true (by first | assumption | omega) | exact congrArg (!·) (decide_eq_false (by first | assumption | omega)) | exact congrArg (!·) (show _ = false by assumption) | rfl)) ?_)
                   | (refine Cases.no (by (first | assumption | exact decide_eq_false (by first | assumption | omega) | exact congrArg (!·) (decide_eq_true (by first | assumption | omega)) | exact congrArg (!·) (show _ = true by assumption) | rfl)) ?_)
                   | (refine Idx.mk ⟨_, rfl, by first | assumption | omega, ?_⟩)
                   | (refine Idx.mk ⟨0, rfl, by omega, ?_⟩)
                   | (refine DrawOb.start ?_)
                   | (refine TryF.fast rfl (by decide +kernel) (by kernel_rfl) ?_)
                   | (refine TryF.next rfl ?_)
                   | (refine TryF.other ?_)
                   | (refine TryG.go rfl (by decide +kernel) (by kernel_rfl) ?_)
                   | (refine TryG.next rfl ?_))
        refine ⟨⟨_, _, rfl, rfl, AvLe.int ?_⟩⟩
        exact (dchk_lev hr c2 c3).symm
    · have c2' : fundB D = true := c2.resolve_left c1
      rw [c2'] at s1
      · skip
        have dz := (fundB_mod c2).1
        by_cases c3 : (n : Int).tmod D = 0
        · rcases (show D < 0 ∨ 0 < D by omega) with d | d
          · rcases (show K % 2 = 0 ∨ K % 2 = 1 by omega) with m | m
            · have q1 : decide (0 < D) = false := decide_eq_false (by omega)
              have q2 : decide (K.tmod 2 = 0) = true := decide_eq_true (by omega)
              have q3 : (!decide (0 < D) == decide (K.tmod 2 = 0)) = true := by rw [q1, q2]; rfl
              repeat' (conv => whnf
                       first
                         | (refine Ob.mk (by (first | omega | (simp only [InK]; omega) | exact ⟨by omega, tdivIn (by omega) (by omega)⟩ | exact ⟨by first | omega | (simp only [InK]; omega), by first | omega | (simp only [InK]; omega)⟩)) ?_)
                         | (refine Cases.yes (by (first | assumption | exact decide_eq_true (by first | assumption | omega) | exact congrArg (!·) (decide_eq_false (by first | assumption | omega)) | exact congrArg (!·) (show _ = false by assumption) | rfl)) ?_)
                         | (refine Cases.no (by (first | assumption | exact decide_eq_false (by first | assumption | omega) | exact congrArg (!·) (decide_eq_true (by first | assumption | omega)) | exact congrArg (!·) (show _ = true by assumption) | rfl)) ?_)
                         | (refine Idx.mk ⟨_, rfl, by first | assumption | omega, ?_⟩)
                         | (refine Idx.mk ⟨0, rfl, by omega, ?_⟩)
                         | (refine DrawOb.start ?_)
                         | (refine TryF.fast rfl (by decide +kernel) (by kernel_rfl) ?_)
                         | (refine TryF.next rfl ?_)
                         | (refine TryF.other ?_)
                         | (refine TryG.go rfl (by decide +kernel) (by kernel_rfl) ?_)
                         | (refine TryG.next rfl ?_)
                         | (refine Sp.call (s1) (ArgsLe.refl _) rfl (AvLe.refl _) ?_))
              refine ⟨⟨_, _, rfl, rfl, AvLe.int ?_⟩⟩
              exact (dchk_par hr c2 c3 (by omega)).symm
            · have q1 : decide (0 < D) = false := decide_eq_false (by omega)
              have q2 : decide (K.tmod 2 = 0) = false := decide_eq_false (by omega)
              have q3 : (!decide (0 < D) == decide (K.tmod 2 = 0)) = false := by rw [q1, q2]; rfl
              by_cases c5 : 512 < psi n * (K - 1)
              · repeat' (conv => whnf
                         first
                           | (refine Ob.mk (by (first | omega | (simp only [InK]; omega) | exact ⟨by omega, tdivIn (by omega) (by omega)⟩ | exact ⟨by first | omega | (simp only [InK]; omega), by first | omega | (simp only [InK]; omega)⟩)) ?_)
                           | (refine Cases.yes (by (first | assumption | exact decide_eq_true (by first | assumption | omega) | exact congrArg (!·) (decide_eq_false (by first | assumption | omega)) | exact congrArg (!·) (show _ = false by assumption) | rfl)) ?_)
                           | (refine Cases.no (by (first | assumption | exact decide_eq_false (by first | assumption | omega) | exact congrArg (!·) (decide_eq_true (by first | assumption | omega)) | exact congrArg (!·) (show _ = true by assumption) | rfl)) ?_)
                           | (refine Idx.mk ⟨_, rfl, by first | assumption | omega, ?_⟩)
                           | (refine Idx.mk ⟨0, rfl, by omega, ?_⟩)
                           | (refine DrawOb.start ?_)
                           | (refine TryF.fast rfl (by decide +kernel) (by kernel_rfl) ?_)
                           | (refine TryF.next rfl ?_)
                           | (refine TryF.other ?_)
                           | (refine TryG.go rfl (by decide +kernel) (by kernel_rfl) ?_)
                           | (refine TryG.next rfl ?_)
                           | (refine Sp.call (s1) (ArgsLe.refl _) rfl (AvLe.refl _) ?_)
                           | (refine Sp.call (psi21_sp n (by omega) (by omega)) (ArgsLe.refl _) rfl (AvLe.refl _) ?_))
                refine ⟨⟨_, _, rfl, rfl, AvLe.int ?_⟩⟩
                exact (dchk_big hr c2 c3 (by omega) (by rw [Int.toNat_natCast]; exact c5)).symm
              · repeat' (conv => whnf
                         first
                           | (refine Ob.mk (by (first | omega | (simp only [InK]; omega) | exact ⟨by omega, tdivIn (by omega) (by omega)⟩ | exact ⟨by first | omega | (simp only [InK]; omega), by first | omega | (simp only [InK]; omega)⟩)) ?_)
                           | (refine Cases.yes (by (first | assumption | exact decide_eq_true (by first | assumption | omega) | exact congrArg (!·) (decide_eq_false (by first | assumption | omega)) | exact congrArg (!·) (show _ = false by assumption) | rfl)) ?_)
                           | (refine Cases.no (by (first | assumption | exact decide_eq_false (by first | assumption | omega) | exact congrArg (!·) (decide_eq_true (by first | assumption | omega)) | exact congrArg (!·) (show _ = true by assumption) | rfl)) ?_)
                           | (refine Idx.mk ⟨_, rfl, by first | assumption | omega, ?_⟩)
                           | (refine Idx.mk ⟨0, rfl, by omega, ?_⟩)
                           | (refine DrawOb.start ?_)
                           | (refine TryF.fast rfl (by decide +kernel) (by kernel_rfl) ?_)
                           | (refine TryF.next rfl ?_)
                           | (refine TryF.other ?_)
                           | (refine TryG.go rfl (by decide +kernel) (by kernel_rfl) ?_)
                           | (refine TryG.next rfl ?_)
                           | (refine Sp.call (s1) (ArgsLe.refl _) rfl (AvLe.refl _) ?_)
                           | (refine Sp.call (psi21_sp n (by omega) (by omega)) (ArgsLe.refl _) rfl (AvLe.refl _) ?_))
                refine ⟨⟨_, _, rfl, rfl, AvLe.int ?_⟩⟩
                exact (dchk_ok hr c2 c3 (by omega) (by rw [Int.toNat_natCast]; exact c5)).symm
          · rcases (show K % 2 = 0 ∨ K % 2 = 1 by omega) with m | m
            · have q1 : decide (0 < D) = true := decide_eq_true (by omega)
              have q2 : decide (K.tmod 2 = 0) = true := decide_eq_true (by omega)
              have q3 : (!decide (0 < D) == decide (K.tmod 2 = 0)) = false := by rw [q1, q2]; rfl
              by_cases c5 : 512 < psi n * (K - 1)
              · repeat' (conv => whnf
                         first
                           | (refine Ob.mk (by (first | omega | (simp only [InK]; omega) | exact ⟨by omega, tdivIn (by omega) (by omega)⟩ | exact ⟨by first | omega | (simp only [InK]; omega), by first | omega | (simp only [InK]; omega)⟩)) ?_)
                           | (refine Cases.yes (by (first | assumption | exact decide_eq_true (by first | assumption | omega) | exact congrArg (!·) (decide_eq_false (by first | assumption | omega)) | exact congrArg (!·) (show _ = false by assumption) | rfl)) ?_)
                           | (refine Cases.no (by (first | assumption | exact decide_eq_false (by first | assumption | omega) | exact congrArg (!·) (decide_eq_true (by first | assumption | omega)) | exact congrArg (!·) (show _ = true by assumption) | rfl)) ?_)
                           | (refine Idx.mk ⟨_, rfl, by first | assumption | omega, ?_⟩)
                           | (refine Idx.mk ⟨0, rfl, by omega, ?_⟩)
                           | (refine DrawOb.start ?_)
                           | (refine TryF.fast rfl (by decide +kernel) (by kernel_rfl) ?_)
                           | (refine TryF.next rfl ?_)
                           | (refine TryF.other ?_)
                           | (refine TryG.go rfl (by decide +kernel) (by kernel_rfl) ?_)
                           | (refine TryG.next rfl ?_)
                           | (refine Sp.call (s1) (ArgsLe.refl _) rfl (AvLe.refl _) ?_)
                           | (refine Sp.call (psi21_sp n (by omega) (by omega)) (ArgsLe.refl _) rfl (AvLe.refl _) ?_))
                refine ⟨⟨_, _, rfl, rfl, AvLe.int ?_⟩⟩
                exact (dchk_big hr c2 c3 (by omega) (by rw [Int.toNat_natCast]; exact c5)).symm
              · repeat' (conv => whnf
                         first
                           | (refine Ob.mk (by (first | omega | (simp only [InK]; omega) | exact ⟨by omega, tdivIn (by omega) (by omega)⟩ | exact ⟨by first | omega | (simp only [InK]; omega), by first | omega | (simp only [InK]; omega)⟩)) ?_)
                           | (refine Cases.yes (by (first | assumption | exact decide_eq_true (by first | assumption | omega) | exact congrArg (!·) (decide_eq_false (by first | assumption | omega)) | exact congrArg (!·) (show _ = false by assumption) | rfl)) ?_)
                           | (refine Cases.no (by (first | assumption | exact decide_eq_false (by first | assumption | omega) | exact congrArg (!·) (decide_eq_true (by first | assumption | omega)) | exact congrArg (!·) (show _ = true by assumption) | rfl)) ?_)
                           | (refine Idx.mk ⟨_, rfl, by first | assumption | omega, ?_⟩)
                           | (refine Idx.mk ⟨0, rfl, by omega, ?_⟩)
                           | (refine DrawOb.start ?_)
                           | (refine TryF.fast rfl (by decide +kernel) (by kernel_rfl) ?_)
                           | (refine TryF.next rfl ?_)
                           | (refine TryF.other ?_)
                           | (refine TryG.go rfl (by decide +kernel) (by kernel_rfl) ?_)
                           | (refine TryG.next rfl ?_)
                           | (refine Sp.call (s1) (ArgsLe.refl _) rfl (AvLe.refl _) ?_)
                           | (refine Sp.call (psi21_sp n (by omega) (by omega)) (ArgsLe.refl _) rfl (AvLe.refl _) ?_))
                refine ⟨⟨_, _, rfl, rfl, AvLe.int ?_⟩⟩
                exact (dchk_ok hr c2 c3 (by omega) (by rw [Int.toNat_natCast]; exact c5)).symm
            · have q1 : decide (0 < D) = true := decide_eq_true (by omega)
              have q2 : decide (K.tmod 2 = 0) = false := decide_eq_false (by omega)
              have q3 : (!decide (0 < D) == decide (K.tmod 2 = 0)) = true := by rw [q1, q2]; rfl
              repeat' (conv => whnf
                       first
                         | (refine Ob.mk (by (first | omega | (simp only [InK]; omega) | exact ⟨by omega, tdivIn (by omega) (by omega)⟩ | exact ⟨by first | omega | (simp only [InK]; omega), by first | omega | (simp only [InK]; omega)⟩)) ?_)
                         | (refine Cases.yes (by (first | assumption | exact decide_eq_true (by first | assumption | omega) | exact congrArg (!·) (decide_eq_false (by first | assumption | omega)) | exact congrArg (!·) (show _ = false by assumption) | rfl)) ?_)
                         | (refine Cases.no (by (first | assumption | exact decide_eq_false (by first | assumption | omega) | exact congrArg (!·) (decide_eq_true (by first | assumption | omega)) | exact congrArg (!·) (show _ = true by assumption) | rfl)) ?_)
                         | (refine Idx.mk ⟨_, rfl, by first | assumption | omega, ?_⟩)
                         | (refine Idx.mk ⟨0, rfl, by omega, ?_⟩)
                         | (refine DrawOb.start ?_)
                         | (refine TryF.fast rfl (by decide +kernel) (by kernel_rfl) ?_)
                         | (refine TryF.next rfl ?_)
                         | (refine TryF.other ?_)
                         | (refine TryG.go rfl (by decide +kernel) (by kernel_rfl) ?_)
                         | (refine TryG.next rfl ?_)
                         | (refine Sp.call (s1) (ArgsLe.refl _) rfl (AvLe.refl _) ?_))
              refine ⟨⟨_, _, rfl, rfl, AvLe.int ?_⟩⟩
              exact (dchk_par hr c2 c3 (by omega)).symm
        · repeat' (conv => whnf
                   first
                     | (refine Ob.mk (by (first | omega | (simp only [InK]; omega) | exact ⟨by omega, tdivIn (by omega) (by omega)⟩ | exact ⟨by first | omega | (simp only [InK]; omega), by first | omega | (simp only [InK]; omega)⟩)) ?_)
                     | (refine Cases.yes (by (first | assumption | exact decide_eq_true (by first | assumption | omega) | exact congrArg (!·) (decide_eq_false (by first | assumption | omega)) | exact congrArg (!·) (show _ = false by assumption) | rfl)) ?_)
                     | (refine Cases.no (by (first | assumption | exact decide_eq_false (by first | assumption | omega) | exact congrArg (!·) (decide_eq_true (by first | assumption | omega)) | exact congrArg (!·) (show _ = true by assumption) | rfl)) ?_)
                     | (refine Idx.mk ⟨_, rfl, by first | assumption | omega, ?_⟩)
                     | (refine Idx.mk ⟨0, rfl, by omega, ?_⟩)
                     | (refine DrawOb.start ?_)
                     | (refine TryF.fast rfl (by decide +kernel) (by kernel_rfl) ?_)
                     | (refine TryF.next rfl ?_)
                     | (refine TryF.other ?_)
                     | (refine TryG.go rfl (by decide +kernel) (by kernel_rfl) ?_)
                     | (refine TryG.next rfl ?_)
                     | (refine Sp.call (s1) (ArgsLe.refl _) rfl (AvLe.refl _) ?_))
          refine ⟨⟨_, _, rfl, rfl, AvLe.int ?_⟩⟩
          exact (dchk_lev hr c2 c3).symm
  · have c2' : fundB D = false := by
      cases hb : fundB D with
      | true => exact absurd (.inr hb) c2
      | false => rfl
    have c1 : D ≠ 1 := fun h => c2 (.inl h)
    rw [c2'] at s1
    repeat' (conv => whnf
             first
               | (refine Ob.mk (by (first | omega | (simp only [InK]; omega) | exact ⟨by omega, tdivIn (by omega) (by omega)⟩ | exact ⟨by first | omega | (simp only [InK]; omega), by first | omega | (simp only [InK]; omega)⟩)) ?_)
               | (refine Cases.yes (by (first | assumption | exact decide_eq_true (by first | assumption | omega) | exact congrArg (!·) (decide_eq_false (by first | assumption | omega)) | exact congrArg (!·) (show _ = false by assumption) | rfl)) ?_)
               | (refine Cases.no (by (first | assumption | exact decide_eq_false (by first | assumption | omega) | exact congrArg (!·) (decide_eq_true (by first | assumption | omega)) | exact congrArg (!·) (show _ = true by assumption) | rfl)) ?_)
               | (refine Idx.mk ⟨_, rfl, by first | assumption | omega, ?_⟩)
               | (refine Idx.mk ⟨0, rfl, by omega, ?_⟩)
               | (refine DrawOb.start ?_)
               | (refine TryF.fast rfl (by decide +kernel) (by kernel_rfl) ?_)
               | (refine TryF.next rfl ?_)
               | (refine TryF.other ?_)
               | (refine TryG.go rfl (by decide +kernel) (by kernel_rfl) ?_)
               | (refine TryG.next rfl ?_)
               | (refine Sp.call (s1) (ArgsLe.refl _) rfl (AvLe.refl _) ?_))
    refine ⟨⟨_, _, rfl, rfl, AvLe.int ?_⟩⟩
    exact (dchk_disc hr c2).symm
set_option maxHeartbeats 4000000 in
theorem checkm_sp (L K D : Int) : Sp CX 13 [specA L K D] (int .i64 (dchk L K D)) := by
  refine fn_sp (C := CX) [] [] tysX_ok mixed Tryd.func13 rfl (by kernel_rfl) Tryd.ntmps13 rfl rfl ?_
  by_cases r0 : L < 1
  · repeat' (conv => whnf
             first
               | (refine Ob.mk (by (first | omega | (simp only [InK]; omega) | exact ⟨by omega, tdivIn (by omega) (by omega)⟩ | exact ⟨by first | omega | (simp only [InK]; omega), by first | omega | (simp only [InK]; omega)⟩)) ?_)
               | (refine Cases.yes (by (first | assumption | exact decide_eq_true (by first | assumption | omega) | exact congrArg (!·) (decide_eq_false (by first | assumption | omega)) | exact congrArg (!·) (show _ = false by assumption) | rfl)) ?_)
               | (refine Cases.no (by (first | assumption | exact decide_eq_false (by first | assumption | omega) | exact congrArg (!·) (decide_eq_true (by first | assumption | omega)) | exact congrArg (!·) (show _ = true by assumption) | rfl)) ?_)
               | (refine Idx.mk ⟨_, rfl, by first | assumption | omega, ?_⟩)
               | (refine Idx.mk ⟨0, rfl, by omega, ?_⟩)
               | (refine DrawOb.start ?_)
               | (refine TryF.fast rfl (by decide +kernel) (by kernel_rfl) ?_)
               | (refine TryF.next rfl ?_)
               | (refine TryF.other ?_)
               | (refine TryG.go rfl (by decide +kernel) (by kernel_rfl) ?_)
               | (refine TryG.next rfl ?_))
    refine ⟨⟨_, _, rfl, rfl, AvLe.int ?_⟩⟩
    exact (dchk_range (by omega)).symm
  by_cases r1 : 120 < L
  · repeat' (conv => whnf
             first
               | (refine Ob.mk (by (first | omega | (simp only [InK]; omega) | exact ⟨by omega, tdivIn (by omega) (by omega)⟩ | exact ⟨by first | omega | (simp only [InK]; omega), by first | omega | (simp only [InK]; omega)⟩)) ?_)
               | (refine Cases.yes (by (first | assumption | exact decide_eq_true (by first | assumption | omega) | exact congrArg (!·) (decide_eq_false (by first | assumption | omega)) | exact congrArg (!·) (show _ = false by assumption) | rfl)) ?_)
               | (refine Cases.no (by (first | assumption | exact decide_eq_false (by first | assumption | omega) | exact congrArg (!·) (decide_eq_true (by first | assumption | omega)) | exact congrArg (!·) (show _ = true by assumption) | rfl)) ?_)
               | (refine Idx.mk ⟨_, rfl, by first | assumption | omega, ?_⟩)
               | (refine Idx.mk ⟨0, rfl, by omega, ?_⟩)
               | (refine DrawOb.start ?_)
               | (refine TryF.fast rfl (by decide +kernel) (by kernel_rfl) ?_)
               | (refine TryF.next rfl ?_)
               | (refine TryF.other ?_)
               | (refine TryG.go rfl (by decide +kernel) (by kernel_rfl) ?_)
               | (refine TryG.next rfl ?_))
    refine ⟨⟨_, _, rfl, rfl, AvLe.int ?_⟩⟩
    exact (dchk_range (by omega)).symm
  by_cases r2 : K < 2
  · repeat' (conv => whnf
             first
               | (refine Ob.mk (by (first | omega | (simp only [InK]; omega) | exact ⟨by omega, tdivIn (by omega) (by omega)⟩ | exact ⟨by first | omega | (simp only [InK]; omega), by first | omega | (simp only [InK]; omega)⟩)) ?_)
               | (refine Cases.yes (by (first | assumption | exact decide_eq_true (by first | assumption | omega) | exact congrArg (!·) (decide_eq_false (by first | assumption | omega)) | exact congrArg (!·) (show _ = false by assumption) | rfl)) ?_)
               | (refine Cases.no (by (first | assumption | exact decide_eq_false (by first | assumption | omega) | exact congrArg (!·) (decide_eq_true (by first | assumption | omega)) | exact congrArg (!·) (show _ = true by assumption) | rfl)) ?_)
               | (refine Idx.mk ⟨_, rfl, by first | assumption | omega, ?_⟩)
               | (refine Idx.mk ⟨0, rfl, by omega, ?_⟩)
               | (refine DrawOb.start ?_)
               | (refine TryF.fast rfl (by decide +kernel) (by kernel_rfl) ?_)
               | (refine TryF.next rfl ?_)
               | (refine TryF.other ?_)
               | (refine TryG.go rfl (by decide +kernel) (by kernel_rfl) ?_)
               | (refine TryG.next rfl ?_))
    refine ⟨⟨_, _, rfl, rfl, AvLe.int ?_⟩⟩
    exact (dchk_range (by omega)).symm
  by_cases r3 : 24 < K
  · repeat' (conv => whnf
             first
               | (refine Ob.mk (by (first | omega | (simp only [InK]; omega) | exact ⟨by omega, tdivIn (by omega) (by omega)⟩ | exact ⟨by first | omega | (simp only [InK]; omega), by first | omega | (simp only [InK]; omega)⟩)) ?_)
               | (refine Cases.yes (by (first | assumption | exact decide_eq_true (by first | assumption | omega) | exact congrArg (!·) (decide_eq_false (by first | assumption | omega)) | exact congrArg (!·) (show _ = false by assumption) | rfl)) ?_)
               | (refine Cases.no (by (first | assumption | exact decide_eq_false (by first | assumption | omega) | exact congrArg (!·) (decide_eq_true (by first | assumption | omega)) | exact congrArg (!·) (show _ = true by assumption) | rfl)) ?_)
               | (refine Idx.mk ⟨_, rfl, by first | assumption | omega, ?_⟩)
               | (refine Idx.mk ⟨0, rfl, by omega, ?_⟩)
               | (refine DrawOb.start ?_)
               | (refine TryF.fast rfl (by decide +kernel) (by kernel_rfl) ?_)
               | (refine TryF.next rfl ?_)
               | (refine TryF.other ?_)
               | (refine TryG.go rfl (by decide +kernel) (by kernel_rfl) ?_)
               | (refine TryG.next rfl ?_))
    refine ⟨⟨_, _, rfl, rfl, AvLe.int ?_⟩⟩
    exact (dchk_range (by omega)).symm
  by_cases r4 : D < -120
  · repeat' (conv => whnf
             first
               | (refine Ob.mk (by (first | omega | (simp only [InK]; omega) | exact ⟨by omega, tdivIn (by omega) (by omega)⟩ | exact ⟨by first | omega | (simp only [InK]; omega), by first | omega | (simp only [InK]; omega)⟩)) ?_)
               | (refine Cases.yes (by (first | assumption | exact decide_eq_true (by first | assumption | omega) | exact congrArg (!·) (decide_eq_false (by first | assumption | omega)) | exact congrArg (!·) (show _ = false by assumption) | rfl)) ?_)
               | (refine Cases.no (by (first | assumption | exact decide_eq_false (by first | assumption | omega) | exact congrArg (!·) (decide_eq_true (by first | assumption | omega)) | exact congrArg (!·) (show _ = true by assumption) | rfl)) ?_)
               | (refine Idx.mk ⟨_, rfl, by first | assumption | omega, ?_⟩)
               | (refine Idx.mk ⟨0, rfl, by omega, ?_⟩)
               | (refine DrawOb.start ?_)
               | (refine TryF.fast rfl (by decide +kernel) (by kernel_rfl) ?_)
               | (refine TryF.next rfl ?_)
               | (refine TryF.other ?_)
               | (refine TryG.go rfl (by decide +kernel) (by kernel_rfl) ?_)
               | (refine TryG.next rfl ?_))
    refine ⟨⟨_, _, rfl, rfl, AvLe.int ?_⟩⟩
    exact (dchk_range (by omega)).symm
  by_cases r5 : 120 < D
  · repeat' (conv => whnf
             first
               | (refine Ob.mk (by (first | omega | (simp only [InK]; omega) | exact ⟨by omega, tdivIn (by omega) (by omega)⟩ | exact ⟨by first | omega | (simp only [InK]; omega), by first | omega | (simp only [InK]; omega)⟩)) ?_)
               | (refine Cases.yes (by (first | assumption | exact decide_eq_true (by first | assumption | omega) | exact congrArg (!·) (decide_eq_false (by first | assumption | omega)) | exact congrArg (!·) (show _ = false by assumption) | rfl)) ?_)
               | (refine Cases.no (by (first | assumption | exact decide_eq_false (by first | assumption | omega) | exact congrArg (!·) (decide_eq_true (by first | assumption | omega)) | exact congrArg (!·) (show _ = true by assumption) | rfl)) ?_)
               | (refine Idx.mk ⟨_, rfl, by first | assumption | omega, ?_⟩)
               | (refine Idx.mk ⟨0, rfl, by omega, ?_⟩)
               | (refine DrawOb.start ?_)
               | (refine TryF.fast rfl (by decide +kernel) (by kernel_rfl) ?_)
               | (refine TryF.next rfl ?_)
               | (refine TryF.other ?_)
               | (refine TryG.go rfl (by decide +kernel) (by kernel_rfl) ?_)
               | (refine TryG.next rfl ?_))
    refine ⟨⟨_, _, rfl, rfl, AvLe.int ?_⟩⟩
    exact (dchk_range (by omega)).symm
  have hr : ¬ (L < 1 ∨ 120 < L ∨ K < 2 ∨ 24 < K ∨ D < -120 ∨ 120 < D) := by omega
  obtain ⟨n, rfl⟩ := Int.eq_ofNat_of_zero_le (a := L) (by omega)
  have ek : K.tmod 2 = K % 2 := Int.tmod_eq_emod_of_nonneg (by omega)
  obtain ⟨p1, p2⟩ := psi_small (n := n) (by omega) (by omega)
  have hm : psi n * (K - 1) ≤ 400 * 23 := Int.mul_le_mul p2 (by omega) (by omega) (by omega)
  have hm0 : 0 ≤ psi n * (K - 1) := Int.mul_nonneg (by omega) (by omega)
  have s1 := fund_sp D
  have ho := okD_iff (D := D) (by omega) (by omega)
  obtain ⟨o1, o2, o3, e1, e2, e3⟩ : ∃ a b c : Int, a = (fundOut D).1 ∧ b = (fundOut D).2.1 ∧ c = (fundOut D).2.2 := ⟨_, _, _, rfl, rfl, rfl⟩
  rw [← e1, ← e2, ← e3] at s1
  rw [← e2, ← e3] at ho
  clear e1 e2 e3
  by_cases c2 : D = 1 ∨ fundB D = true
  · obtain ⟨h3, h2⟩ := ho.2 c2
    subst h3 h2
    clear ho
    have dz := (fundB_mod c2).1
    by_cases c3 : (n : Int).tmod D = 0
    · rcases (show D < 0 ∨ 0 < D by omega) with d | d
      · rcases (show K % 2 = 0 ∨ K % 2 = 1 by omega) with m | m
        · have q1 : decide (D < 0) = true := decide_eq_true (by omega)
          have q2 : decide (K.tmod 2 = 1) = false := decide_eq_false (by omega)
          have q3 : (!decide (D < 0) == decide (K.tmod 2 = 1)) = true := by rw [q1, q2]; rfl
          repeat' (conv => whnf
                   first
                     | (refine Ob.mk (by (first | omega | (simp only [InK]; omega) | exact ⟨by omega, tdivIn (by omega) (by omega)⟩ | exact ⟨by first | omega | (simp only [InK]; omega), by first | omega | (simp only [InK]; omega)⟩)) ?_)
                     | (refine Cases.yes (by (first | assumption | exact decide_eq_true (by first | assumption | omega) | exact congrArg (!·) (decide_eq_false (by first | assumption | omega)) | exact congrArg (!·) (show _ = false by assumption) | rfl)) ?_)
                     | (refine Cases.no (by (first | assumption | exact decide_eq_false (by first | assumption | omega) | exact congrArg (!·) (decide_eq_true (by first | assumption | omega)) | exact congrArg (!·) (show _ = true by assumption) | rfl)) ?_)
                     | (refine Idx.mk ⟨_, rfl, by first | assumption | omega, ?_⟩)
                     | (refine Idx.mk ⟨0, rfl, by omega, ?_⟩)
                     | (refine DrawOb.start ?_)
                     | (refine TryF.fast rfl (by decide +kernel) (by kernel_rfl) ?_)
                     | (refine TryF.next rfl ?_)
                     | (refine TryF.other ?_)
                     | (refine TryG.go rfl (by decide +kernel) (by kernel_rfl) ?_)
                     | (refine TryG.next rfl ?_)
                     | (refine Sp.call (s1) (ArgsLe.refl _) rfl (AvLe.refl _) ?_)
                     | (refine Sp.call (psi_sp n (by omega) (by omega)) (ArgsLe.refl _) rfl (AvLe.refl _) ?_))
          refine ⟨⟨_, _, rfl, rfl, AvLe.int ?_⟩⟩
          exact (dchk_par hr c2 c3 (by omega)).symm
        · have q1 : decide (D < 0) = true := decide_eq_true (by omega)
          have q2 : decide (K.tmod 2 = 1) = true := decide_eq_true (by omega)
          have q3 : (!decide (D < 0) == decide (K.tmod 2 = 1)) = false := by rw [q1, q2]; rfl
          by_cases c5 : 512 < psi n * (K - 1)
          · repeat' (conv => whnf
                     first
                       | (refine Ob.mk (by (first | omega | (simp only [InK]; omega) | exact ⟨by omega, tdivIn (by omega) (by omega)⟩ | exact ⟨by first | omega | (simp only [InK]; omega), by first | omega | (simp only [InK]; omega)⟩)) ?_)
                       | (refine Cases.yes (by (first | assumption | exact decide_eq_true (by first | assumption | omega) | exact congrArg (!·) (decide_eq_false (by first | assumption | omega)) | exact congrArg (!·) (show _ = false by assumption) | rfl)) ?_)
                       | (refine Cases.no (by (first | assumption | exact decide_eq_false (by first | assumption | omega) | exact congrArg (!·) (decide_eq_true (by first | assumption | omega)) | exact congrArg (!·) (show _ = true by assumption) | rfl)) ?_)
                       | (refine Idx.mk ⟨_, rfl, by first | assumption | omega, ?_⟩)
                       | (refine Idx.mk ⟨0, rfl, by omega, ?_⟩)
                       | (refine DrawOb.start ?_)
                       | (refine TryF.fast rfl (by decide +kernel) (by kernel_rfl) ?_)
                       | (refine TryF.next rfl ?_)
                       | (refine TryF.other ?_)
                       | (refine TryG.go rfl (by decide +kernel) (by kernel_rfl) ?_)
                       | (refine TryG.next rfl ?_)
                       | (refine Sp.call (s1) (ArgsLe.refl _) rfl (AvLe.refl _) ?_)
                       | (refine Sp.call (psi_sp n (by omega) (by omega)) (ArgsLe.refl _) rfl (AvLe.refl _) ?_))
            refine ⟨⟨_, _, rfl, rfl, AvLe.int ?_⟩⟩
            exact (dchk_big hr c2 c3 (by omega) (by rw [Int.toNat_natCast]; exact c5)).symm
          · repeat' (conv => whnf
                     first
                       | (refine Ob.mk (by (first | omega | (simp only [InK]; omega) | exact ⟨by omega, tdivIn (by omega) (by omega)⟩ | exact ⟨by first | omega | (simp only [InK]; omega), by first | omega | (simp only [InK]; omega)⟩)) ?_)
                       | (refine Cases.yes (by (first | assumption | exact decide_eq_true (by first | assumption | omega) | exact congrArg (!·) (decide_eq_false (by first | assumption | omega)) | exact congrArg (!·) (show _ = false by assumption) | rfl)) ?_)
                       | (refine Cases.no (by (first | assumption | exact decide_eq_false (by first | assumption | omega) | exact congrArg (!·) (decide_eq_true (by first | assumption | omega)) | exact congrArg (!·) (show _ = true by assumption) | rfl)) ?_)
                       | (refine Idx.mk ⟨_, rfl, by first | assumption | omega, ?_⟩)
                       | (refine Idx.mk ⟨0, rfl, by omega, ?_⟩)
                       | (refine DrawOb.start ?_)
                       | (refine TryF.fast rfl (by decide +kernel) (by kernel_rfl) ?_)
                       | (refine TryF.next rfl ?_)
                       | (refine TryF.other ?_)
                       | (refine TryG.go rfl (by decide +kernel) (by kernel_rfl) ?_)
                       | (refine TryG.next rfl ?_)
                       | (refine Sp.call (s1) (ArgsLe.refl _) rfl (AvLe.refl _) ?_)
                       | (refine Sp.call (psi_sp n (by omega) (by omega)) (ArgsLe.refl _) rfl (AvLe.refl _) ?_))
            refine ⟨⟨_, _, rfl, rfl, AvLe.int ?_⟩⟩
            exact (dchk_ok hr c2 c3 (by omega) (by rw [Int.toNat_natCast]; exact c5)).symm
      · rcases (show K % 2 = 0 ∨ K % 2 = 1 by omega) with m | m
        · have q1 : decide (D < 0) = false := decide_eq_false (by omega)
          have q2 : decide (K.tmod 2 = 1) = false := decide_eq_false (by omega)
          have q3 : (!decide (D < 0) == decide (K.tmod 2 = 1)) = false := by rw [q1, q2]; rfl
          by_cases c5 : 512 < psi n * (K - 1)
          · repeat' (conv => whnf
                     first
                       | (refine Ob.mk (by (first | omega | (simp only [InK]; omega) | exact ⟨by omega, tdivIn (by omega) (by omega)⟩ | exact ⟨by first | omega | (simp only [InK]; omega), by first | omega | (simp only [InK]; omega)⟩)) ?_)
                       | (refine Cases.yes (by (first | assumption | exact decide_eq_true (by first | assumption | omega) | exact congrArg (!·) (decide_eq_false (by first | assumption | omega)) | exact congrArg (!·) (show _ = false by assumption) | rfl)) ?_)
                       | (refine Cases.no (by (first | assumption | exact decide_eq_false (by first | assumption | omega) | exact congrArg (!·) (decide_eq_true (by first | assumption | omega)) | exact congrArg (!·) (show _ = true by assumption) | rfl)) ?_)
                       | (refine Idx.mk ⟨_, rfl, by first | assumption | omega, ?_⟩)
                       | (refine Idx.mk ⟨0, rfl, by omega, ?_⟩)
                       | (refine DrawOb.start ?_)
                       | (refine TryF.fast rfl (by decide +kernel) (by kernel_rfl) ?_)
                       | (refine TryF.next rfl ?_)
                       | (refine TryF.other ?_)
                       | (refine TryG.go rfl (by decide +kernel) (by kernel_rfl) ?_)
                       | (refine TryG.next rfl ?_)
                       | (refine Sp.call (s1) (ArgsLe.refl _) rfl (AvLe.refl _) ?_)
                       | (refine Sp.call (psi_sp n (by omega) (by omega)) (ArgsLe.refl _) rfl (AvLe.refl _) ?_))
            refine ⟨⟨_, _, rfl, rfl, AvLe.int ?_⟩⟩
            exact (dchk_big hr c2 c3 (by omega) (by rw [Int.toNat_natCast]; exact c5)).symm
          · repeat' (conv => whnf
                     first
                       | (refine Ob.mk (by (first | omega | (simp only [InK]; omega) | exact ⟨by omega, tdivIn (by omega) (by omega)⟩ | exact ⟨by first | omega | (simp only [InK]; omega), by first | omega | (simp only [InK]; omega)⟩)) ?_)
                       | (refine Cases.yes (by (first | assumption | exact decide_eq_true (by first | assumption | omega) | exact congrArg (!·) (decide_eq_false (by first | assumption | omega)) | exact congrArg (!·) (show _ = false by assumption) | rfl)) ?_)
                       | (refine Cases.no (by (first | assumption | exact decide_eq_false (by first | assumption | omega) | exact congrArg (!·) (decide_eq_true (by first | assumption | omega)) | exact congrArg (!·) (show _ = true by assumption) | rfl)) ?_)
                       | (refine Idx.mk ⟨_, rfl, by first | assumption | omega, ?_⟩)
                       | (refine Idx.mk ⟨0, rfl, by omega, ?_⟩)
                       | (refine DrawOb.start ?_)
                       | (refine TryF.fast rfl (by decide +kernel) (by kernel_rfl) ?_)
                       | (refine TryF.next rfl ?_)
                       | (refine TryF.other ?_)
                       | (refine TryG.go rfl (by decide +kernel) (by kernel_rfl) ?_)
                       | (refine TryG.next rfl ?_)
                       | (refine Sp.call (s1) (ArgsLe.refl _) rfl (AvLe.refl _) ?_)
                       | (refine Sp.call (psi_sp n (by omega) (by omega)) (ArgsLe.refl _) rfl (AvLe.refl _) ?_))
            refine ⟨⟨_, _, rfl, rfl, AvLe.int ?_⟩⟩
            exact (dchk_ok hr c2 c3 (by omega) (by rw [Int.toNat_natCast]; exact c5)).symm
        · have q1 : decide (D < 0) = false := decide_eq_false (by omega)
          have q2 : decide (K.tmod 2 = 1) = true := decide_eq_true (by omega)
          have q3 : (!decide (D < 0) == decide (K.tmod 2 = 1)) = true := by rw [q1, q2]; rfl
          repeat' (conv => whnf
                   first
                     | (refine Ob.mk (by (first | omega | (simp only [InK]; omega) | exact ⟨by omega, tdivIn (by omega) (by omega)⟩ | exact ⟨by first | omega | (simp only [InK]; omega), by first | omega | (simp only [InK]; omega)⟩)) ?_)
                     | (refine Cases.yes (by (first | assumption | exact decide_eq_true (by first | assumption | omega) | exact congrArg (!·) (decide_eq_false (by first | assumption | omega)) | exact congrArg (!·) (show _ = false by assumption) | rfl)) ?_)
                     | (refine Cases.no (by (first | assumption | exact decide_eq_false (by first | assumption | omega) | exact congrArg (!·) (decide_eq_true (by first | assumption | omega)) | exact congrArg (!·) (show _ = true by assumption) | rfl)) ?_)
                     | (refine Idx.mk ⟨_, rfl, by first | assumption | omega, ?_⟩)
                     | (refine Idx.mk ⟨0, rfl, by omega, ?_⟩)
                     | (refine DrawOb.start ?_)
                     | (refine TryF.fast rfl (by decide +kernel) (by kernel_rfl) ?_)
                     | (refine TryF.next rfl ?_)
                     | (refine TryF.other ?_)
                     | (refine TryG.go rfl (by decide +kernel) (by kernel_rfl) ?_)
                     | (refine TryG.next rfl ?_)
                     | (refine Sp.call (s1) (ArgsLe.refl _) rfl (AvLe.refl _) ?_)
                     | (refine Sp.call (psi_sp n (by omega) (by omega)) (ArgsLe.refl _) rfl (AvLe.refl _) ?_))
          refine ⟨⟨_, _, rfl, rfl, AvLe.int ?_⟩⟩
          exact (dchk_par hr c2 c3 (by omega)).symm
    · repeat' (conv => whnf
               first
                 | (refine Ob.mk (by (first | omega | (simp only [InK]; omega) | exact ⟨by omega, tdivIn (by omega) (by omega)⟩ | exact ⟨by first | omega | (simp only [InK]; omega), by first | omega | (simp only [InK]; omega)⟩)) ?_)
                 | (refine Cases.yes (by (first | assumption | exact decide_eq_true (by first | assumption | omega) | exact congrArg (!·) (decide_eq_false (by first | assumption | omega)) | exact congrArg (!·) (show _ = false by assumption) | rfl)) ?_)
                 | (refine Cases.no (by (first | assumption | exact decide_eq_false (by first | assumption | omega) | exact congrArg (!·) (decide_eq_true (by first | assumption | omega)) | exact congrArg (!·) (show _ = true by assumption) | rfl)) ?_)
                 | (refine Idx.mk ⟨_, rfl, by first | assumption | omega, ?_⟩)
                 | (refine Idx.mk ⟨0, rfl, by omega, ?_⟩)
                 | (refine DrawOb.start ?_)
                 | (refine TryF.fast rfl (by decide +kernel) (by kernel_rfl) ?_)
                 | (refine TryF.next rfl ?_)
                 | (refine TryF.other ?_)
                 | (refine TryG.go rfl (by decide +kernel) (by kernel_rfl) ?_)
                 | (refine TryG.next rfl ?_)
                 | (refine Sp.call (s1) (ArgsLe.refl _) rfl (AvLe.refl _) ?_)
                 | (refine Sp.call (psi_sp n (by omega) (by omega)) (ArgsLe.refl _) rfl (AvLe.refl _) ?_))
      refine ⟨⟨_, _, rfl, rfl, AvLe.int ?_⟩⟩
      exact (dchk_lev hr c2 c3).symm
  · by_cases h3 : o3 = 0
    · have h2 : o2 ≠ 1 := fun h => c2 (ho.1 ⟨h3, h⟩)
      clear ho
      repeat' (conv => whnf
               first
                 | (refine Ob.mk (by (first | omega | (simp only [InK]; omega) | exact ⟨by omega, tdivIn (by omega) (by omega)⟩ | exact ⟨by first | omega | (simp only [InK]; omega), by first | omega | (simp only [InK]; omega)⟩)) ?_)
                 | (refine Cases.yes (by (first | assumption | exact decide_eq_true (by first | assumption | omega) | exact congrArg (!·) (decide_eq_false (by first | assumption | omega)) | exact congrArg (!·) (show _ = false by assumption) | rfl)) ?_)
                 | (refine Cases.no (by (first | assumption | exact decide_eq_false (by first | assumption | omega) | exact congrArg (!·) (decide_eq_true (by first | assumption | omega)) | exact congrArg (!·) (show _ = true by assumption) | rfl)) ?_)
                 | (refine Idx.mk ⟨_, rfl, by first | assumption | omega, ?_⟩)
                 | (refine Idx.mk ⟨0, rfl, by omega, ?_⟩)
                 | (refine DrawOb.start ?_)
                 | (refine TryF.fast rfl (by decide +kernel) (by kernel_rfl) ?_)
                 | (refine TryF.next rfl ?_)
                 | (refine TryF.other ?_)
                 | (refine TryG.go rfl (by decide +kernel) (by kernel_rfl) ?_)
                 | (refine TryG.next rfl ?_)
                 | (refine Sp.call (s1) (ArgsLe.refl _) rfl (AvLe.refl _) ?_))
      refine ⟨⟨_, _, rfl, rfl, AvLe.int ?_⟩⟩
      exact (dchk_disc hr c2).symm
    · clear ho
      repeat' (conv => whnf
               first
                 | (refine Ob.mk (by (first | omega | (simp only [InK]; omega) | exact ⟨by omega, tdivIn (by omega) (by omega)⟩ | exact ⟨by first | omega | (simp only [InK]; omega), by first | omega | (simp only [InK]; omega)⟩)) ?_)
                 | (refine Cases.yes (by (first | assumption | exact decide_eq_true (by first | assumption | omega) | exact congrArg (!·) (decide_eq_false (by first | assumption | omega)) | exact congrArg (!·) (show _ = false by assumption) | rfl)) ?_)
                 | (refine Cases.no (by (first | assumption | exact decide_eq_false (by first | assumption | omega) | exact congrArg (!·) (decide_eq_true (by first | assumption | omega)) | exact congrArg (!·) (show _ = true by assumption) | rfl)) ?_)
                 | (refine Idx.mk ⟨_, rfl, by first | assumption | omega, ?_⟩)
                 | (refine Idx.mk ⟨0, rfl, by omega, ?_⟩)
                 | (refine DrawOb.start ?_)
                 | (refine TryF.fast rfl (by decide +kernel) (by kernel_rfl) ?_)
                 | (refine TryF.next rfl ?_)
                 | (refine TryF.other ?_)
                 | (refine TryG.go rfl (by decide +kernel) (by kernel_rfl) ?_)
                 | (refine TryG.next rfl ?_)
                 | (refine Sp.call (s1) (ArgsLe.refl _) rfl (AvLe.refl _) ?_))
      refine ⟨⟨_, _, rfl, rfl, AvLe.int ?_⟩⟩
      exact (dchk_disc hr c2).symm
end Go.Proofs.YteamlpflgfmieaaDoor

/- The program's dimensions of a space. -/
namespace Go.Proofs.YteamlpflgfmieaaDoor
open Go Go.RowKit Go.VG HP
theorem sturm_bad (L K D : Int) (h : dchk L K D ≠ 0) : Sp CX 12 [specA L K D] (.tup [.c (ix 0), .c (ix (dchk L K D))]) := by
  refine fn_sp (C := CX) [] [] tysX_ok mixed Tryd.func12 rfl (by kernel_rfl) Tryd.ntmps12 rfl rfl ?_
  have s := checkm_sp L K D
  obtain ⟨e, he⟩ : ∃ e, e = dchk L K D := ⟨_, rfl⟩
  rw [← he] at s h ⊢
  repeat' (conv => whnf
           first
             | (refine Ob.mk (by (first | omega | (simp only [InK]; omega) | exact ⟨by omega, tdivIn (by omega) (by omega)⟩ | exact ⟨by first | omega | (simp only [InK]; omega), by first | omega | (simp only [InK]; omega)⟩)) ?_)
             | (refine Cases.yes (by (first | assumption | exact decide_eq_true (by first | assumption | omega) | exact congrArg (!·) (decide_eq_false (by first | assumption | omega)) | exact congrArg (!·) (show _ = false by assumption) | rfl)) ?_)
             | (refine Cases.no (by (first | assumption | exact decide_eq_false (by first | assumption | omega) | exact congrArg (!·) (decide_eq_true (by first | assumption | omega)) | exact congrArg (!·) (show _ = true by assumption) | rfl)) ?_)
             | (refine Idx.mk ⟨_, rfl, by first | assumption | omega, ?_⟩)
             | (refine Idx.mk ⟨0, rfl, by omega, ?_⟩)
             | (refine DrawOb.start ?_)
             | (refine TryF.fast rfl (by decide +kernel) (by kernel_rfl) ?_)
             | (refine TryF.next rfl ?_)
             | (refine TryF.other ?_)
             | (refine TryG.go rfl (by decide +kernel) (by kernel_rfl) ?_)
             | (refine TryG.next rfl ?_)
             | (refine Sp.call (s) (ArgsLe.refl _) rfl (AvLe.refl _) ?_))
  refine ⟨⟨_, _, rfl, rfl, ?_⟩⟩
  exact AvLe.refl _
set_option maxHeartbeats 4000000 in
theorem sturm_ok (n k : Nat) (D : Int) (h : DOk n k D) : Sp CX 12 [specA n k D] (.tup [.c (ix (((k : Int) * psi n).tdiv 12)), .c (ix 0)]) := by
  have s := checkm_sp n k D
  rw [h.chk] at s
  obtain ⟨n0, n1, k0, k1, d0, d1, dz, d4, _, dv, _, bg⟩ := h
  have f0 : 1 ≤ D.natAbs := by omega
  have f1 : D.natAbs ≤ 120 := by omega
  have a := psi_small n0 n1
  have b : (k : Int) * psi n ≤ 24 * 400 := Int.mul_le_mul (by omega) (by omega) (by omega) (by omega)
  have c : 0 ≤ (k : Int) * psi n := Int.mul_nonneg (by omega) (by omega)
  refine fn_sp (C := CX) [] [] tysX_ok mixed Tryd.func12 rfl (by kernel_rfl) Tryd.ntmps12 rfl rfl ?_
  repeat' (conv => whnf
           first
             | (refine Ob.mk (by (first | omega | (simp only [InK]; omega) | exact ⟨by omega, tdivIn (by omega) (by omega)⟩ | exact ⟨by first | omega | (simp only [InK]; omega), by first | omega | (simp only [InK]; omega)⟩)) ?_)
             | (refine Cases.yes (by (first | assumption | exact decide_eq_true (by first | assumption | omega) | exact congrArg (!·) (decide_eq_false (by first | assumption | omega)) | exact congrArg (!·) (show _ = false by assumption) | rfl)) ?_)
             | (refine Cases.no (by (first | assumption | exact decide_eq_false (by first | assumption | omega) | exact congrArg (!·) (decide_eq_true (by first | assumption | omega)) | exact congrArg (!·) (show _ = true by assumption) | rfl)) ?_)
             | (refine Idx.mk ⟨_, rfl, by first | assumption | omega, ?_⟩)
             | (refine Idx.mk ⟨0, rfl, by omega, ?_⟩)
             | (refine DrawOb.start ?_)
             | (refine TryF.fast rfl (by decide +kernel) (by kernel_rfl) ?_)
             | (refine TryF.next rfl ?_)
             | (refine TryF.other ?_)
             | (refine TryG.go rfl (by decide +kernel) (by kernel_rfl) ?_)
             | (refine TryG.next rfl ?_)
             | (refine Sp.call (s) (ArgsLe.refl _) rfl (AvLe.refl _) ?_)
             | (refine Sp.call (psi_sp n (by omega) (by omega)) (ArgsLe.refl _) rfl (AvLe.refl _) ?_))
  refine ⟨⟨_, _, rfl, rfl, ?_⟩⟩
  exact AvLe.refl _
theorem cusp_bad (L K D : Int) (h : dchk L K D ≠ 0) : Sp CX 15 [specA L K D] (.tup [.c (ix 0), .c (ix (dchk L K D))]) := by
  refine fn_sp (C := CX) [] [] tysX_ok mixed Tryd.func15 rfl (by kernel_rfl) Tryd.ntmps15 rfl rfl ?_
  have s := checkm_sp L K D
  obtain ⟨e, he⟩ : ∃ e, e = dchk L K D := ⟨_, rfl⟩
  rw [← he] at s h ⊢
  repeat' (conv => whnf
           first
             | (refine Ob.mk (by (first | omega | (simp only [InK]; omega) | exact ⟨by omega, tdivIn (by omega) (by omega)⟩ | exact ⟨by first | omega | (simp only [InK]; omega), by first | omega | (simp only [InK]; omega)⟩)) ?_)
             | (refine Cases.yes (by (first | assumption | exact decide_eq_true (by first | assumption | omega) | exact congrArg (!·) (decide_eq_false (by first | assumption | omega)) | exact congrArg (!·) (show _ = false by assumption) | rfl)) ?_)
             | (refine Cases.no (by (first | assumption | exact decide_eq_false (by first | assumption | omega) | exact congrArg (!·) (decide_eq_true (by first | assumption | omega)) | exact congrArg (!·) (show _ = true by assumption) | rfl)) ?_)
             | (refine Idx.mk ⟨_, rfl, by first | assumption | omega, ?_⟩)
             | (refine Idx.mk ⟨0, rfl, by omega, ?_⟩)
             | (refine DrawOb.start ?_)
             | (refine TryF.fast rfl (by decide +kernel) (by kernel_rfl) ?_)
             | (refine TryF.next rfl ?_)
             | (refine TryF.other ?_)
             | (refine TryG.go rfl (by decide +kernel) (by kernel_rfl) ?_)
             | (refine TryG.next rfl ?_)
             | (refine Sp.call (s) (ArgsLe.refl _) rfl (AvLe.refl _) ?_))
  refine ⟨⟨_, _, rfl, rfl, ?_⟩⟩
  exact AvLe.refl _
set_option maxHeartbeats 4000000 in
theorem cusp_ok (n k : Nat) (D : Int) (h : DOk n k D) : Sp CX 15 [specA n k D] (.tup [.c (ix (cuspV n k D)), .c (ix 0)]) := by
  have s := checkm_sp n k D
  rw [h.chk] at s
  obtain ⟨n0, n1, k0, k1, d0, d1, dz, d4, _, dv, _, bg⟩ := h
  have f0 : 1 ≤ D.natAbs := by omega
  have f1 : D.natAbs ≤ 120 := by omega
  have b1 := four_bd D n 0 n
  have b2 := three_bd D n 1 n
  refine fn_sp (C := CX) [] [] tysX_ok mixed Tryd.func15 rfl (by kernel_rfl) Tryd.ntmps15 rfl rfl ?_
  repeat' (conv => whnf
           first
             | (refine Ob.mk (by (first | omega | (simp only [InK]; omega) | exact ⟨by omega, tdivIn (by omega) (by omega)⟩ | exact ⟨by first | omega | (simp only [InK]; omega), by first | omega | (simp only [InK]; omega)⟩)) ?_)
             | (refine Cases.yes (by (first | assumption | exact decide_eq_true (by first | assumption | omega) | exact congrArg (!·) (decide_eq_false (by first | assumption | omega)) | exact congrArg (!·) (show _ = false by assumption) | rfl)) ?_)
             | (refine Cases.no (by (first | assumption | exact decide_eq_false (by first | assumption | omega) | exact congrArg (!·) (decide_eq_true (by first | assumption | omega)) | exact congrArg (!·) (show _ = true by assumption) | rfl)) ?_)
             | (refine Idx.mk ⟨_, rfl, by first | assumption | omega, ?_⟩)
             | (refine Idx.mk ⟨0, rfl, by omega, ?_⟩)
             | (refine DrawOb.start ?_)
             | (refine TryF.fast rfl (by decide +kernel) (by kernel_rfl) ?_)
             | (refine TryF.next rfl ?_)
             | (refine TryF.other ?_)
             | (refine TryG.go rfl (by decide +kernel) (by kernel_rfl) ?_)
             | (refine TryG.next rfl ?_)
             | (refine Sp.call (s) (ArgsLe.refl _) rfl (AvLe.refl _) ?_)
             | (refine Sp.call (quadratic_sp n k D n dz d4 dv n0 (by omega) (by omega) (by omega)) (ArgsLe.refl _) rfl (AvLe.refl _) ?_)
             | (refine Sp.call (cuspm_sp n D.natAbs k (rootR n 0 (fun a => jac D a) n) (rootR n 1 (fun a => 2 * jac D a) n) n0 n1 f0 f1 dv k0 k1 (by omega) (by omega) (by omega) (by omega)) (ArgsLe.refl _) rfl (AvLe.refl _) ?_))
  refine ⟨⟨_, _, rfl, rfl, ?_⟩⟩
  exact AvLe.refl _
theorem eisen_bad (L K D : Int) (h : dchk L K D ≠ 0) : Sp CX 24 [specA L K D] (.tup [.c (ix 0), .c (ix (dchk L K D))]) := by
  refine fn_sp (C := CX) [] [] tysX_ok mixed Tryd.func24 rfl (by kernel_rfl) Tryd.ntmps24 rfl rfl ?_
  have s := checkm_sp L K D
  obtain ⟨e, he⟩ : ∃ e, e = dchk L K D := ⟨_, rfl⟩
  rw [← he] at s h ⊢
  repeat' (conv => whnf
           first
             | (refine Ob.mk (by (first | omega | (simp only [InK]; omega) | exact ⟨by omega, tdivIn (by omega) (by omega)⟩ | exact ⟨by first | omega | (simp only [InK]; omega), by first | omega | (simp only [InK]; omega)⟩)) ?_)
             | (refine Cases.yes (by (first | assumption | exact decide_eq_true (by first | assumption | omega) | exact congrArg (!·) (decide_eq_false (by first | assumption | omega)) | exact congrArg (!·) (show _ = false by assumption) | rfl)) ?_)
             | (refine Cases.no (by (first | assumption | exact decide_eq_false (by first | assumption | omega) | exact congrArg (!·) (decide_eq_true (by first | assumption | omega)) | exact congrArg (!·) (show _ = true by assumption) | rfl)) ?_)
             | (refine Idx.mk ⟨_, rfl, by first | assumption | omega, ?_⟩)
             | (refine Idx.mk ⟨0, rfl, by omega, ?_⟩)
             | (refine DrawOb.start ?_)
             | (refine TryF.fast rfl (by decide +kernel) (by kernel_rfl) ?_)
             | (refine TryF.next rfl ?_)
             | (refine TryF.other ?_)
             | (refine TryG.go rfl (by decide +kernel) (by kernel_rfl) ?_)
             | (refine TryG.next rfl ?_)
             | (refine Sp.call (s) (ArgsLe.refl _) rfl (AvLe.refl _) ?_))
  refine ⟨⟨_, _, rfl, rfl, ?_⟩⟩
  exact AvLe.refl _
set_option maxHeartbeats 4000000 in
theorem eisen_ok (n k : Nat) (D : Int) (h : DOk n k D) : Sp CX 24 [specA n k D] (.tup [.c (ix (lam D.natAbs n - if k = 2 ∧ D.natAbs = 1 then 1 else 0)), .c (ix 0)]) := by
  have s := checkm_sp n k D
  rw [h.chk] at s
  obtain ⟨n0, n1, k0, k1, d0, d1, dz, d4, _, dv, _, bg⟩ := h
  have f0 : 1 ≤ D.natAbs := by omega
  have f1 : D.natAbs ≤ 120 := by omega
  have b1 := four_bd D n 0 n
  have b2 := three_bd D n 1 n
  refine fn_sp (C := CX) [] [] tysX_ok mixed Tryd.func24 rfl (by kernel_rfl) Tryd.ntmps24 rfl rfl ?_
  repeat' (conv => whnf
           first
             | (refine Ob.mk (by (first | omega | (simp only [InK]; omega) | exact ⟨by omega, tdivIn (by omega) (by omega)⟩ | exact ⟨by first | omega | (simp only [InK]; omega), by first | omega | (simp only [InK]; omega)⟩)) ?_)
             | (refine Cases.yes (by (first | assumption | exact decide_eq_true (by first | assumption | omega) | exact congrArg (!·) (decide_eq_false (by first | assumption | omega)) | exact congrArg (!·) (show _ = false by assumption) | rfl)) ?_)
             | (refine Cases.no (by (first | assumption | exact decide_eq_false (by first | assumption | omega) | exact congrArg (!·) (decide_eq_true (by first | assumption | omega)) | exact congrArg (!·) (show _ = true by assumption) | rfl)) ?_)
             | (refine Idx.mk ⟨_, rfl, by first | assumption | omega, ?_⟩)
             | (refine Idx.mk ⟨0, rfl, by omega, ?_⟩)
             | (refine DrawOb.start ?_)
             | (refine TryF.fast rfl (by decide +kernel) (by kernel_rfl) ?_)
             | (refine TryF.next rfl ?_)
             | (refine TryF.other ?_)
             | (refine TryG.go rfl (by decide +kernel) (by kernel_rfl) ?_)
             | (refine TryG.next rfl ?_)
             | (refine Sp.call (s) (ArgsLe.refl _) rfl (AvLe.refl _) ?_)
             | (refine Sp.call (quadratic_sp n k D n dz d4 dv n0 (by omega) (by omega) (by omega)) (ArgsLe.refl _) rfl (AvLe.refl _) ?_)
             | (refine Sp.call (eis_sp n D.natAbs k (rootR n 0 (fun a => jac D a) n) (rootR n 1 (fun a => 2 * jac D a) n) n0 n1 f0 f1 dv) (ArgsLe.refl _) rfl (AvLe.refl _) ?_))
  refine ⟨⟨_, _, rfl, rfl, ?_⟩⟩
  exact AvLe.refl _
theorem modular_bad (L K D : Int) (h : dchk L K D ≠ 0) : Sp CX 23 [specA L K D] (.tup [.c (ix 0), .c (ix (dchk L K D))]) := by
  refine fn_sp (C := CX) [] [] tysX_ok mixed Tryd.func23 rfl (by kernel_rfl) Tryd.ntmps23 rfl rfl ?_
  have s := checkm_sp L K D
  obtain ⟨e, he⟩ : ∃ e, e = dchk L K D := ⟨_, rfl⟩
  rw [← he] at s h ⊢
  repeat' (conv => whnf
           first
             | (refine Ob.mk (by (first | omega | (simp only [InK]; omega) | exact ⟨by omega, tdivIn (by omega) (by omega)⟩ | exact ⟨by first | omega | (simp only [InK]; omega), by first | omega | (simp only [InK]; omega)⟩)) ?_)
             | (refine Cases.yes (by (first | assumption | exact decide_eq_true (by first | assumption | omega) | exact congrArg (!·) (decide_eq_false (by first | assumption | omega)) | exact congrArg (!·) (show _ = false by assumption) | rfl)) ?_)
             | (refine Cases.no (by (first | assumption | exact decide_eq_false (by first | assumption | omega) | exact congrArg (!·) (decide_eq_true (by first | assumption | omega)) | exact congrArg (!·) (show _ = true by assumption) | rfl)) ?_)
             | (refine Idx.mk ⟨_, rfl, by first | assumption | omega, ?_⟩)
             | (refine Idx.mk ⟨0, rfl, by omega, ?_⟩)
             | (refine DrawOb.start ?_)
             | (refine TryF.fast rfl (by decide +kernel) (by kernel_rfl) ?_)
             | (refine TryF.next rfl ?_)
             | (refine TryF.other ?_)
             | (refine TryG.go rfl (by decide +kernel) (by kernel_rfl) ?_)
             | (refine TryG.next rfl ?_)
             | (refine Sp.call (s) (ArgsLe.refl _) rfl (AvLe.refl _) ?_))
  refine ⟨⟨_, _, rfl, rfl, ?_⟩⟩
  exact AvLe.refl _
set_option maxHeartbeats 4000000 in
theorem modular_ok (n k : Nat) (D : Int) (h : DOk n k D) : Sp CX 23 [specA n k D] (.tup [.c (ix (cuspV n k D + (lam D.natAbs n - if k = 2 ∧ D.natAbs = 1 then 1 else 0))), .c (ix 0)]) := by
  have s := checkm_sp n k D
  rw [h.chk] at s
  obtain ⟨n0, n1, k0, k1, d0, d1, dz, d4, _, dv, _, bg⟩ := h
  have f0 : 1 ≤ D.natAbs := by omega
  have f1 : D.natAbs ≤ 120 := by omega
  have b1 := four_bd D n 0 n
  have b2 := three_bd D n 1 n
  have b3 := cuspV_bd D n0 n1 (show 1 ≤ k by omega) k1
  have b4 := lam_small (f := D.natAbs) n0 n1
  obtain ⟨ex, hex⟩ : ∃ ex : Int, ex = if k = 2 ∧ D.natAbs = 1 then 1 else 0 := ⟨_, rfl⟩
  have hex2 : 0 ≤ ex ∧ ex ≤ 1 := by rw [hex]; split <;> omega
  have s2 := cuspm_sp n D.natAbs k (rootR n 0 (fun a => jac D a) n) (rootR n 1 (fun a => 2 * jac D a) n) n0 n1 f0 f1 dv k0 k1 (by omega) (by omega) (by omega) (by omega)
  rw [show (dim12 n k D.natAbs (rootR n 0 (fun a => jac D a) n) (rootR n 1 (fun a => 2 * jac D a) n)).tdiv 12 = cuspV n k D from rfl] at s2
  have s3 := eis_sp n D.natAbs k (rootR n 0 (fun a => jac D a) n) (rootR n 1 (fun a => 2 * jac D a) n) n0 n1 f0 f1 dv
  rw [← hex] at s3 ⊢
  clear hex
  refine fn_sp (C := CX) [] [] tysX_ok mixed Tryd.func23 rfl (by kernel_rfl) Tryd.ntmps23 rfl rfl ?_
  repeat' (conv => whnf
           first
             | (refine Ob.mk (by (first | omega | (simp only [InK]; omega) | exact ⟨by omega, tdivIn (by omega) (by omega)⟩ | exact ⟨by first | omega | (simp only [InK]; omega), by first | omega | (simp only [InK]; omega)⟩)) ?_)
             | (refine Cases.yes (by (first | assumption | exact decide_eq_true (by first | assumption | omega) | exact congrArg (!·) (decide_eq_false (by first | assumption | omega)) | exact congrArg (!·) (show _ = false by assumption) | rfl)) ?_)
             | (refine Cases.no (by (first | assumption | exact decide_eq_false (by first | assumption | omega) | exact congrArg (!·) (decide_eq_true (by first | assumption | omega)) | exact congrArg (!·) (show _ = true by assumption) | rfl)) ?_)
             | (refine Idx.mk ⟨_, rfl, by first | assumption | omega, ?_⟩)
             | (refine Idx.mk ⟨0, rfl, by omega, ?_⟩)
             | (refine DrawOb.start ?_)
             | (refine TryF.fast rfl (by decide +kernel) (by kernel_rfl) ?_)
             | (refine TryF.next rfl ?_)
             | (refine TryF.other ?_)
             | (refine TryG.go rfl (by decide +kernel) (by kernel_rfl) ?_)
             | (refine TryG.next rfl ?_)
             | (refine Sp.call (s) (ArgsLe.refl _) rfl (AvLe.refl _) ?_)
             | (refine Sp.call (quadratic_sp n k D n dz d4 dv n0 (by omega) (by omega) (by omega)) (ArgsLe.refl _) rfl (AvLe.refl _) ?_)
             | (refine Sp.call (s2) (ArgsLe.refl _) rfl (AvLe.refl _) ?_)
             | (refine Sp.call (s3) (ArgsLe.refl _) rfl (AvLe.refl _) ?_))
  refine ⟨⟨_, _, rfl, rfl, ?_⟩⟩
  exact AvLe.refl _
theorem new_bad (L K D : Int) (h : dchk L K D ≠ 0) : Sp CX 16 [specA L K D] (.tup [.c (ix 0), .c (ix (dchk L K D))]) := by
  refine fn_sp (C := CX) [] [] tysX_ok mixed Tryd.func16 rfl (by kernel_rfl) Tryd.ntmps16 rfl rfl ?_
  have s := checkm_sp L K D
  obtain ⟨e, he⟩ : ∃ e, e = dchk L K D := ⟨_, rfl⟩
  rw [← he] at s h ⊢
  repeat' (conv => whnf
           first
             | (refine Ob.mk (by (first | omega | (simp only [InK]; omega) | exact ⟨by omega, tdivIn (by omega) (by omega)⟩ | exact ⟨by first | omega | (simp only [InK]; omega), by first | omega | (simp only [InK]; omega)⟩)) ?_)
             | (refine Cases.yes (by (first | assumption | exact decide_eq_true (by first | assumption | omega) | exact congrArg (!·) (decide_eq_false (by first | assumption | omega)) | exact congrArg (!·) (show _ = false by assumption) | rfl)) ?_)
             | (refine Cases.no (by (first | assumption | exact decide_eq_false (by first | assumption | omega) | exact congrArg (!·) (decide_eq_true (by first | assumption | omega)) | exact congrArg (!·) (show _ = true by assumption) | rfl)) ?_)
             | (refine Idx.mk ⟨_, rfl, by first | assumption | omega, ?_⟩)
             | (refine Idx.mk ⟨0, rfl, by omega, ?_⟩)
             | (refine DrawOb.start ?_)
             | (refine TryF.fast rfl (by decide +kernel) (by kernel_rfl) ?_)
             | (refine TryF.next rfl ?_)
             | (refine TryF.other ?_)
             | (refine TryG.go rfl (by decide +kernel) (by kernel_rfl) ?_)
             | (refine TryG.next rfl ?_)
             | (refine Sp.call (s) (ArgsLe.refl _) rfl (AvLe.refl _) ?_))
  refine ⟨⟨_, _, rfl, rfl, ?_⟩⟩
  exact AvLe.refl _
set_option maxHeartbeats 4000000 in
theorem new_ok (n k : Nat) (D : Int) (h : DOk n k D) : Sp CX 16 [specA n k D] (.tup [.c (ix (newV n k D)), .c (ix 0)]) := by
  have s := checkm_sp n k D
  rw [h.chk] at s
  obtain ⟨n0, n1, k0, k1, d0, d1, dz, d4, _, _, _, bg⟩ := h
  have f0 : 1 ≤ D.natAbs := by omega
  have f1 : D.natAbs ≤ 120 := by omega
  obtain ⟨Z, len, hZ, hlen⟩ := zOf (dvs n) 0
  have hll : len ≤ 121 := by
    rw [hlen]
    unfold dvs
    exact Nat.le_trans (List.length_filter_le _ _) (by simp; omega)
  refine fn_sp (C := CX) [] [] tysX_ok mixed Tryd.func16 rfl (by kernel_rfl) Tryd.ntmps16 rfl rfl ?_
  repeat' (conv => whnf
           first
             | (refine Ob.mk (by (first | omega | (simp only [InK]; omega) | exact ⟨by omega, tdivIn (by omega) (by omega)⟩ | exact ⟨by first | omega | (simp only [InK]; omega), by first | omega | (simp only [InK]; omega)⟩)) ?_)
             | (refine Cases.yes (by (first | assumption | exact decide_eq_true (by first | assumption | omega) | exact congrArg (!·) (decide_eq_false (by first | assumption | omega)) | exact congrArg (!·) (show _ = false by assumption) | rfl)) ?_)
             | (refine Cases.no (by (first | assumption | exact decide_eq_false (by first | assumption | omega) | exact congrArg (!·) (decide_eq_true (by first | assumption | omega)) | exact congrArg (!·) (show _ = true by assumption) | rfl)) ?_)
             | (refine Idx.mk ⟨_, rfl, by first | assumption | omega, ?_⟩)
             | (refine Idx.mk ⟨0, rfl, by omega, ?_⟩)
             | (refine DrawOb.start ?_)
             | (refine TryF.fast rfl (by decide +kernel) (by kernel_rfl) ?_)
             | (refine TryF.next rfl ?_)
             | (refine TryF.other ?_)
             | (refine TryG.go rfl (by decide +kernel) (by kernel_rfl) ?_)
             | (refine TryG.next rfl ?_)
             | (refine Sp.call (s) (ArgsLe.refl _) rfl (AvLe.refl _) ?_)
             | (refine Sp.call (divisors_sp n Z len (fun i x => hZ i x) hlen n0 (by omega)) (ArgsLe.refl _) rfl (AvLe.refl _) ?_))
  refine ⟨⟨Nat × Int, fun (i, s) => ⟨[(1, .v (.c (.loc 0 0))), (5, int .i64 s), (21, .v (.c (.sl 1 Nat (fun z _ => ix z) Z len))), (22, int .i64 len), (23, int .i64 i)], [(0, .st [ix n, ix k, ix D])], 1⟩, fun (i, s) => i ≤ len ∧ s = sumG (newG n k D) ((dvs n).take i), fun (i, _) => len - i, ⟨(0, 0), [], ⟨Nat.zero_le _, rfl⟩, (by refine ⟨?_, ?_, rfl⟩ <;> repeat (first | exact TmE.nil | exact OwnE.nil | refine TmE.cons (by first | exact AvLe.refl _ | exact AvLe.int (by omega) | exact AvLe.bool (by first | rfl | assumption)) ?_ | refine OwnE.cons rfl (BlkLe.refl _) ?_ | refine OwnE.cons rfl BlkLe.zero ?_))⟩, ?_⟩⟩
  rintro ⟨i, s⟩ ⟨m1, m2⟩
  have b0 := newS_bd D n0 n1 (show 1 ≤ k by omega) k1 i
  rw [← m2] at b0
  by_cases hd : i < len
  · have hat : (dvs n)[i]? = some (Z i) := by
      have h := List.getElem?_eq_getElem (l := dvs n) (i := i) (by omega)
      rw [h, hZ i _ h]
    have hdv : Z i ∣ n := (dvs_mem n0).1 (List.mem_of_getElem? hat)
    have hs := sumG_next (newG n k D) hat
    rw [← m2] at hs
    have hb := newG_bd D n0 n1 (show 1 ≤ k by omega) k1 hdv
    have hz1 := Nat.pos_of_dvd_of_pos hdv n0
    have hz2 := Nat.le_of_dvd n0 hdv
    have hq1 : 0 < n / Z i := Nat.div_pos hz2 hz1
    have hq2 := Nat.div_le_self n (Z i)
    have eq : (n : Int).tdiv (Z i) = ((n / Z i : Nat) : Int) := (Int.ofNat_tdiv n (Z i)).symm
    by_cases c : D.natAbs ∣ Z i
    · have ct : (Z i : Int).tmod D = 0 := Int.tmod_eq_zero_of_dvd (by rw [← Int.natAbs_dvd_natAbs]; simpa using c)
      have e : newG n k D (Z i) = bet (n / Z i) * cuspV (Z i) k D := by unfold newG; rw [if_pos c]
      rw [e] at hs hb
      have hb1 := bet_sm hq1 (show n / Z i ≤ 120 by omega)
      have hb2 := cuspV_bd D hz1 (show Z i ≤ 120 by omega) (show 1 ≤ k by omega) k1
      have b1 := four_bd D (Z i) 0 (Z i)
      have b2 := three_bd D (Z i) 1 (Z i)
      have s2 := cuspm_sp (Z i) D.natAbs k (rootR (Z i) 0 (fun a => jac D a) (Z i)) (rootR (Z i) 1 (fun a => 2 * jac D a) (Z i)) (by omega) (by omega) f0 f1 c k0 k1 (by omega) (by omega) (by omega) (by omega)
      rw [show (dim12 (Z i) k D.natAbs (rootR (Z i) 0 (fun a => jac D a) (Z i)) (rootR (Z i) 1 (fun a => 2 * jac D a) (Z i))).tdiv 12 = cuspV (Z i) k D from rfl] at s2
      clear m2
      repeat' (conv => whnf
               first
                 | (refine Ob.mk (by (first | omega | (simp only [InK]; omega) | exact ⟨by omega, tdivIn (by omega) (by omega)⟩ | exact ⟨by first | omega | (simp only [InK]; omega), by first | omega | (simp only [InK]; omega)⟩)) ?_)
                 | (refine Cases.yes (by (first | assumption | exact decide_eq_true (by first | assumption | omega) | exact congrArg (!·) (decide_eq_false (by first | assumption | omega)) | exact congrArg (!·) (show _ = false by assumption) | rfl)) ?_)
                 | (refine Cases.no (by (first | assumption | exact decide_eq_false (by first | assumption | omega) | exact congrArg (!·) (decide_eq_true (by first | assumption | omega)) | exact congrArg (!·) (show _ = true by assumption) | rfl)) ?_)
                 | (refine Idx.mk ⟨_, rfl, by first | assumption | omega, ?_⟩)
                 | (refine Idx.mk ⟨0, rfl, by omega, ?_⟩)
                 | (refine DrawOb.start ?_)
                 | (refine TryF.fast rfl (by decide +kernel) (by kernel_rfl) ?_)
                 | (refine TryF.next rfl ?_)
                 | (refine TryF.other ?_)
                 | (refine TryG.go rfl (by decide +kernel) (by kernel_rfl) ?_)
                 | (refine TryG.next rfl ?_)
                 | (refine Sp.call (beta_sp (n / Z i) (by omega) (by omega)) (.cons (AvLe.int (by omega)) .nil) rfl (AvLe.refl _) ?_)
                 | (refine Sp.call (quadratic_sp n k D (Z i) dz d4 c (by omega) (by omega) (by omega) (by omega)) (ArgsLe.refl _) rfl (AvLe.refl _) ?_)
                 | (refine Sp.call (s2) (ArgsLe.refl _) rfl (AvLe.refl _) ?_))
      exact ⟨(i + 1, s + bet (n / Z i) * cuspV (Z i) k D), [], ⟨hd, hs.symm⟩, by show len - (i + 1) < len - i; omega, (by refine ⟨?_, ?_, rfl⟩ <;> repeat (first | exact TmE.nil | exact OwnE.nil | refine TmE.cons (by first | exact AvLe.refl _ | exact AvLe.int (by omega) | exact AvLe.bool (by first | rfl | assumption)) ?_ | refine OwnE.cons rfl (BlkLe.refl _) ?_ | refine OwnE.cons rfl BlkLe.zero ?_))⟩
    · have ct : (Z i : Int).tmod D ≠ 0 := fun h => c (by
        have := Int.dvd_of_tmod_eq_zero h
        rw [← Int.natAbs_dvd_natAbs] at this
        simpa using this)
      have e : newG n k D (Z i) = 0 := by unfold newG; rw [if_neg c]
      rw [e, Int.add_zero] at hs
      clear m2
      repeat' (conv => whnf
               first
                 | (refine Ob.mk (by (first | omega | (simp only [InK]; omega) | exact ⟨by omega, tdivIn (by omega) (by omega)⟩ | exact ⟨by first | omega | (simp only [InK]; omega), by first | omega | (simp only [InK]; omega)⟩)) ?_)
                 | (refine Cases.yes (by (first | assumption | exact decide_eq_true (by first | assumption | omega) | exact congrArg (!·) (decide_eq_false (by first | assumption | omega)) | exact congrArg (!·) (show _ = false by assumption) | rfl)) ?_)
                 | (refine Cases.no (by (first | assumption | exact decide_eq_false (by first | assumption | omega) | exact congrArg (!·) (decide_eq_true (by first | assumption | omega)) | exact congrArg (!·) (show _ = true by assumption) | rfl)) ?_)
                 | (refine Idx.mk ⟨_, rfl, by first | assumption | omega, ?_⟩)
                 | (refine Idx.mk ⟨0, rfl, by omega, ?_⟩)
                 | (refine DrawOb.start ?_)
                 | (refine TryF.fast rfl (by decide +kernel) (by kernel_rfl) ?_)
                 | (refine TryF.next rfl ?_)
                 | (refine TryF.other ?_)
                 | (refine TryG.go rfl (by decide +kernel) (by kernel_rfl) ?_)
                 | (refine TryG.next rfl ?_))
      exact ⟨(i + 1, s), [], ⟨hd, hs.symm⟩, by show len - (i + 1) < len - i; omega, (by refine ⟨?_, ?_, rfl⟩ <;> repeat (first | exact TmE.nil | exact OwnE.nil | refine TmE.cons (by first | exact AvLe.refl _ | exact AvLe.int (by omega) | exact AvLe.bool (by first | rfl | assumption)) ?_ | refine OwnE.cons rfl (BlkLe.refl _) ?_ | refine OwnE.cons rfl BlkLe.zero ?_))⟩
  · obtain rfl : i = len := by omega
    repeat' (conv => whnf
             first
               | (refine Ob.mk (by (first | omega | (simp only [InK]; omega) | exact ⟨by omega, tdivIn (by omega) (by omega)⟩ | exact ⟨by first | omega | (simp only [InK]; omega), by first | omega | (simp only [InK]; omega)⟩)) ?_)
               | (refine Cases.yes (by (first | assumption | exact decide_eq_true (by first | assumption | omega) | exact congrArg (!·) (decide_eq_false (by first | assumption | omega)) | exact congrArg (!·) (show _ = false by assumption) | rfl)) ?_)
               | (refine Cases.no (by (first | assumption | exact decide_eq_false (by first | assumption | omega) | exact congrArg (!·) (decide_eq_true (by first | assumption | omega)) | exact congrArg (!·) (show _ = true by assumption) | rfl)) ?_)
               | (refine Idx.mk ⟨_, rfl, by first | assumption | omega, ?_⟩)
               | (refine Idx.mk ⟨0, rfl, by omega, ?_⟩)
               | (refine DrawOb.start ?_)
               | (refine TryF.fast rfl (by decide +kernel) (by kernel_rfl) ?_)
               | (refine TryF.next rfl ?_)
               | (refine TryF.other ?_)
               | (refine TryG.go rfl (by decide +kernel) (by kernel_rfl) ?_)
               | (refine TryG.next rfl ?_))
    refine ⟨⟨_, _, rfl, rfl, ?_⟩⟩
    refine AvLe.tup (.cons (AvLe.int ?_) (.cons (AvLe.refl _) .nil))
    rw [m2, hlen, List.take_length]
    rfl
end Go.Proofs.YteamlpflgfmieaaDoor

