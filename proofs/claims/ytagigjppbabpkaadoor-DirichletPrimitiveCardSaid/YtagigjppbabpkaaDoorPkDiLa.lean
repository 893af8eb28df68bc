/- Own texts joined: DiLa, DiLb, DiLc, DiLd, DiLe, DiLf, DiLg. -/
import Derived.Test.YtagigjppbabpkaaDoorPkDiV
/- Dirichlet characters: the fixed calls; what the kernel reckons of quadratic characters. -/
namespace HP
open Go.Proofs.YtagigjppbabpkaaDoor
def jacC2 (d : Int) (a : Nat) : Int := prodL (fun p e => kr d p ^ e) (facC a)
theorem jac_C2 {d : Int} {a : Nat} (h1 : 1 ≤ a) (h2 : a ≤ 120) : jac d a = jacC2 d a := by
  unfold jac jacC2
  rw [ext_facs _ _ h1, ← facs_C h1 h2]
def qWC (d : Int) (i : Nat) : Nat := bif decide (jacC2 d (genT d.natAbs (prtAt d.natAbs i)) < 0) then (prtAt d.natAbs i).o / 2 else 0
theorem gen_pos {n i : Nat} (_n0 : 1 ≤ n) (n1 : n ≤ 60) (hi : i < np n) : 1 ≤ genT n (prtAt n i) := by
  have := gen_unit n1 hi
  rcases Nat.eq_zero_or_pos (genT n (prtAt n i)) with h | h
  · rw [h, Nat.gcd_zero_left] at this
    have hp0 : np n = 0 := by rw [this]; decide
    omega
  · exact h
theorem quW_C {d : Int} {i : Nat} (h0 : d ≠ 0) (h1 : -60 ≤ d) (h2 : d ≤ 60) (hi : i < np d.natAbs) : quW d i = (qWC d i : Int) := by
  have n1 : d.natAbs ≤ 60 := by omega
  have hg1 := gen_pos (show 1 ≤ d.natAbs by omega) n1 hi
  have hgl := genT_lt (prt_z n1 hi)
  unfold quW qWC quV
  rw [kro_pos (by omega), Int.toNat_natCast, jac_C2 hg1 (by omega)]
  by_cases hj : jacC2 d (genT d.natAbs (prtAt d.natAbs i)) < 0
  · rw [if_pos hj, decide_eq_true hj, Nat.one_mul]; rfl
  · rw [if_neg hj, decide_eq_false hj, Nat.zero_mul, Nat.zero_div]; rfl
def quChk (d : Int) : Bool := (List.range (np d.natAbs)).all (fun i => Nat.blt (qWC d i) (prtAt d.natAbs i).o) && Nat.beq (cnd d.natAbs (qWC d)) d.natAbs &&
  Nat.beq (oc d.natAbs (qWC d) (np d.natAbs)) (bif decide (d = 1) then 1 else 2) && (Nat.beq (valR d.natAbs (qWC d) (-1)).2.1 0 == decide (0 < d))
theorem qu_chk : allB 121 (fun k => decide ((k : Int) - 60 = 0) || decide ((fundC ((k : Int) - 60)).2.2 ≠ 0 ∨ (fundC ((k : Int) - 60)).2.1 ≠ 1) || quChk ((k : Int) - 60)) = true := by decide +kernel
end HP

/- Dirichlet characters, plain: logarithms of products; values are multiplicative. -/
namespace HP
open Go.Proofs.YtagigjppbabpkaaDoor
def multP (P : Prt) : Bool := allB P.q fun a => Nat.gcd a P.q != 1 || allB P.q fun b => Nat.gcd b P.q != 1 || (lg P (a * b % P.q) % P.o == (lg P a + lg P b) % P.o)
theorem mult_chk : allB 61 (fun q => (prts q).all fun P => !Nat.beq P.q q || multP P) = true := by decide +kernel
theorem part_own : allB 61 (fun n => (prts n).all fun P => (prts P.q).any fun R => R.r == P.r && R.o == P.o && R.q == P.q) = true := by decide +kernel
end HP

/- Dirichlet characters, plain: values are multiplicative; characters that agree. -/
namespace HP
open Go.Proofs.YtagigjppbabpkaaDoor
theorem gord_chk : allB 61 (fun n => Nat.beq n 0 || (List.range (np n)).all fun i => Nat.beq (mulP n (genT n (prtAt n i)) (1 % n) (prtAt n i).o) (1 % n)) = true := by decide +kernel
theorem glog_chk : allB 61 (fun n => (List.range (np n)).all fun i => (List.range (np n)).all fun j => Nat.beq (lg (prtAt n j) (genT n (prtAt n i) % (prtAt n j).q)) (bif Nat.beq i j then 1 else 0)) = true := by decide +kernel
theorem inv_chk : allB 61 (fun n => Nat.beq n 0 || allB n fun b => Nat.gcd b n != 1 || (List.range n).any fun c => Nat.beq (b * c % n) (1 % n)) = true := by decide +kernel
theorem nbeq_ff {a b : Nat} (h : a ≠ b) : Nat.beq a b = false := by
  rw [Bool.eq_false_iff]
  intro x
  exact h (Nat.eq_of_beq_eq_true x)
theorem inv_at {n b : Nat} (h1 : 1 ≤ n) (h2 : n ≤ 60) (hb : b < n) (hg : Nat.gcd b n = 1) : ∃ c, b * c % n = 1 % n := by
  have h := allB_at (allB_pos inv_chk h1 (show n < 61 by omega)) hb
  rw [hg] at h
  have h : ((List.range n).any fun c => Nat.beq (b * c % n) (1 % n)) = true := by simpa using h
  obtain ⟨c, _, hc⟩ := List.any_eq_true.1 h
  exact ⟨c, Nat.eq_of_beq_eq_true hc⟩
theorem part_mult {n : Nat} (hn : n ≤ 60) {P : Prt} (hP : P ∈ prts n) {a b : Nat} (ha : a < P.q) (hb : b < P.q) (ga : Nat.gcd a P.q = 1) (gb : Nat.gcd b P.q = 1) : lg P (a * b % P.q) % P.o = (lg P a + lg P b) % P.o := by
  have h := List.all_eq_true.1 (allB_at part_own (show n < 61 by omega)) P hP
  obtain ⟨R, hR, hRR⟩ := List.any_eq_true.1 h
  simp only [Bool.and_eq_true, beq_iff_eq] at hRR
  obtain ⟨⟨r1, r2⟩, r3⟩ := hRR
  have e : R = P := by
    obtain ⟨x, y, z⟩ := R
    obtain ⟨u, v, w⟩ := P
    simp only at r1 r2 r3
    rw [r1, r2, r3]
  subst e
  have hq := (part_ok hn hP).q60
  have h2 := List.all_eq_true.1 (allB_at mult_chk (show R.q < 61 by omega)) R hR
  rw [Nat.beq_refl] at h2
  have h2 : multP R = true := h2
  unfold multP at h2
  have h3 := allB_at h2 ha
  rw [ga, bne_self_eq_false, Bool.false_or] at h3
  have h4 := allB_at h3 hb
  rw [gb] at h4
  simpa using h4
theorem rs_cast {a q : Nat} : rs (a : Int) q = a % q := by
  unfold rs
  have : ((a : Int) % (q : Int)) = ((a % q : Nat) : Int) := (Int.natCast_emod a q).symm
  rw [this]; rfl
/-- the sum, modulo the number of all characters -/
def Vn (n : Nat) (E : Nat → Nat) (a : Nat) : Nat := sm n (lgs n a) E (np n) % dn n (np n)
set_option linter.unusedSectionVars false
section
variable {n : Nat} {E : Nat → Nat}
theorem sm_mod {L M : Nat → Nat} : ∀ {i : Nat}, (∀ j, j < i → L j % (prtAt n j).o = M j % (prtAt n j).o) → sm n L E i % dn n i = sm n M E i % dn n i
  | 0, _ => rfl
  | i + 1, h => by
    have ih := sm_mod (i := i) fun j hj => h j (by omega)
    have e : ∀ L : Nat → Nat, sm n L E (i + 1) % dn n (i + 1) = ((sm n L E i % dn n i) * (prtAt n i).o + (E i * (L i % (prtAt n i).o) % (prtAt n i).o) * dn n i) % (dn n i * (prtAt n i).o) := fun L => by
      rw [sm, dn, Nat.add_mod, Nat.mul_mod_mul_right, show dn n i * (prtAt n i).o = (prtAt n i).o * dn n i from Nat.mul_comm _ _, Nat.mul_mod_mul_right]
      rw [Nat.mul_mod (E i) (L i), Nat.mul_mod (E i) (L i % _), Nat.mod_mod]
    rw [e, e, ih, h i (by omega)]
theorem sm_add {L M : Nat → Nat} : ∀ i, sm n (fun j => L j + M j) E i = sm n L E i + sm n M E i
  | 0 => rfl
  | i + 1 => by rw [sm, sm, sm, sm_add i]; simp only [Nat.mul_add, Nat.add_mul]; omega
variable (n0 : 1 ≤ n) (n1 : n ≤ 60)
include n0 n1
theorem lgs_mul {a b : Nat} (ga : Nat.gcd a n = 1) (gb : Nat.gcd b n = 1) {j : Nat} (hj : j < np n) : lgs n ((a * b : Nat) : Int) j % (prtAt n j).o = (lgs n (a : Int) j + lgs n (b : Int) j) % (prtAt n j).o := by
  have ok := prt_z n1 hj
  have hq : 0 < (prtAt n j).q := by have := ok.q3; omega
  unfold lgs
  rw [rs_cast, rs_cast, rs_cast, Nat.mul_mod]
  have g : ∀ x, Nat.gcd x n = 1 → Nat.gcd (x % (prtAt n j).q) (prtAt n j).q = 1 := fun x hx => by
    rw [← Nat.gcd_rec, Nat.gcd_comm]
    exact Nat.Coprime.coprime_dvd_right ok.dvd hx
  exact part_mult n1 (prtAt_mem hj) (Nat.mod_lt _ hq) (Nat.mod_lt _ hq) (g a ga) (g b gb)
theorem V_mul {a b : Nat} (ga : Nat.gcd a n = 1) (gb : Nat.gcd b n = 1) : Vn n E (a * b) = (Vn n E a + Vn n E b) % dn n (np n) := by
  unfold Vn
  rw [sm_mod (M := fun j => lgs n (a : Int) j + lgs n (b : Int) j) fun j hj => lgs_mul n0 n1 ga gb hj, sm_add, Nat.add_mod]
theorem V_lt (a : Nat) : Vn n E a < dn n (np n) := Nat.mod_lt _ (dn_pos n1 _ (Nat.le_refl _))
theorem V_one : Vn n E 1 = 0 := by
  have h := V_mul (E := E) n0 n1 (a := 1) (b := 1) (Nat.gcd_one_left n) (Nat.gcd_one_left n)
  rw [Nat.mul_one] at h
  have hl := V_lt (E := E) n0 n1 1
  generalize Vn n E 1 = v at *
  generalize dn n (np n) = D at *
  rcases Nat.lt_or_ge (v + v) D with h1 | h1
  · rw [Nat.mod_eq_of_lt h1] at h; omega
  · rw [Nat.mod_eq_sub_mod h1, Nat.mod_eq_of_lt (by omega)] at h; omega
theorem cop_mul {a b : Nat} (ga : Nat.gcd a n = 1) (gb : Nat.gcd b n = 1) : Nat.gcd (a * b) n = 1 := Nat.Coprime.mul_left ga gb
theorem cop_pow {a : Nat} (ga : Nat.gcd a n = 1) (k : Nat) : Nat.gcd (a ^ k) n = 1 := Nat.Coprime.pow_left k ga
theorem V_pow {a : Nat} (ga : Nat.gcd a n = 1) : ∀ k, Vn n E (a ^ k) = k * Vn n E a % dn n (np n)
  | 0 => by rw [Nat.pow_zero, V_one n0 n1, Nat.zero_mul, Nat.zero_mod]
  | k + 1 => by
    rw [Nat.pow_succ, V_mul n0 n1 (cop_pow n0 n1 ga k) ga, V_pow ga k, Nat.add_mul, Nat.one_mul, Nat.mod_add_mod]
theorem V_mod {a b : Nat} (h : a % n = b % n) : Vn n E a = Vn n E b := by
  unfold Vn
  congr 1
  refine sm_congr fun j hj => ?_
  unfold lgs
  rw [rs_cast, rs_cast, ← Nat.mod_mod_of_dvd a (prt_z n1 hj).dvd, h, Nat.mod_mod_of_dvd b (prt_z n1 hj).dvd]
theorem chv_V (a : Nat) : chv n E a = rt (Vn n E a) (dn n (np n)) := by unfold chv Vn; rw [rt_mod]
theorem chv_rs (a : Int) : chv n E a = chv n E ((rs a n : Nat) : Int) := by
  unfold chv
  congr 1
  refine sm_congr fun j hj => ?_
  unfold lgs
  rw [rs_cast, rs_rs (by omega) (by have := (prt_z n1 hj).q3; omega) (prt_z n1 hj).dvd]
theorem V_zero (a : Nat) : (chv n E a).1 = 0 ↔ Vn n E a = 0 := by
  rw [chv_V n0 n1, rt_zero (dn_pos n1 _ (Nat.le_refl _)), Nat.mod_eq_of_lt (V_lt n0 n1 a)]
end
theorem mulP_eq {m g y : Nat} (hy : y < m) : ∀ k, mulP m g y k = y * g ^ k % m
  | 0 => by rw [Nat.pow_zero, Nat.mul_one, Nat.mod_eq_of_lt hy]; rfl
  | k + 1 => by rw [mulP, mulP_eq hy k, Nat.mod_mul_mod, Nat.pow_succ, Nat.mul_assoc]
def pw (h L : Nat → Nat) : Nat → Nat
  | 0 => 1
  | i + 1 => pw h L i * h i ^ L i
def sgm (v L : Nat → Nat) : Nat → Nat
  | 0 => 0
  | i + 1 => sgm v L i + L i * v i
/-- the values at h, told with the orders of the parts of m -/
theorem exW_mul {n : Nat} {E : Nat → Nat} (n0 : 1 ≤ n) (n1 : n ≤ 60) {m : Nat} {h : Nat → Nat} {i : Nat} (hg : Nat.gcd (h i) n = 1) (hd : (prtAt m i).o * Vn n E (h i) % dn n (np n) = 0) :
    exW n E m h i * dn n (np n) = (prtAt m i).o * Vn n E (h i) := by
  have hdp := dn_pos n1 (np n) (Nat.le_refl _)
  have hv : valR n E ((h i : Nat) : Int) = (false, chv n E ((h i : Nat) : Int)) := by unfold valR; rw [if_pos (by rw [Int.gcd_natCast_natCast]; exact hg)]
  unfold exW
  rw [hv, chv_V n0 n1]
  obtain ⟨f1, f2, _, _, _⟩ := rt_facts (N := Vn n E (h i)) hdp
  rw [Nat.mod_eq_of_lt (V_lt n0 n1 _)] at f1
  obtain ⟨t, ht⟩ := Nat.dvd_of_mod_eq_zero hd
  generalize rt (Vn n E (h i)) (dn n (np n)) = P at *
  generalize dn n (np n) = D at *
  generalize Vn n E (h i) = v at *
  generalize (prtAt m i).o = o at *
  have e : P.1 * o = P.2 * t := by
    apply Nat.eq_of_mul_eq_mul_right hdp
    calc P.1 * o * D = P.1 * D * o := by ac_rfl
      _ = v * P.2 * o := by rw [f1]
      _ = P.2 * (o * v) := by ac_rfl
      _ = P.2 * (D * t) := by rw [ht]
      _ = P.2 * t * D := by ac_rfl
  show P.1 * o / P.2 * D = o * v
  rw [e, Nat.mul_div_cancel_left _ f2, ht, Nat.mul_comm]
structure Agr (n : Nat) (E : Nat → Nat) (m : Nat) (h : Nat → Nat) : Prop where
  n0 : 1 ≤ n
  n1 : n ≤ 60
  m0 : 1 ≤ m
  m1 : m ≤ 60
  cop : ∀ i, i < np m → Nat.gcd (h i) n = 1
  gen : ∀ i, i < np m → h i % m = genT m (prtAt m i) % m
  inv : ∀ a b, Nat.gcd a n = 1 → Nat.gcd b n = 1 → a % m = b % m → Vn n E a = Vn n E b
theorem agr_dvd {n : Nat} {E : Nat → Nat} {m : Nat} {h : Nat → Nat} (H : Agr n E m h) {i : Nat} (hi : i < np m) : (prtAt m i).o * Vn n E (h i) % dn n (np n) = 0 := by
  have hc := H.cop i hi
  have h1 := List.all_eq_true.1 (allB_pos gord_chk H.m0 (show m < 61 by have := H.m1; omega)) i (List.mem_range.2 hi)
  have h1 := Nat.eq_of_beq_eq_true h1
  have m0 := H.m0
  rw [mulP_eq (Nat.mod_lt _ m0), Nat.mod_mul_mod, Nat.one_mul] at h1
  have h2 : h i ^ (prtAt m i).o % m = 1 % m := by rw [Nat.pow_mod, H.gen i hi, ← Nat.pow_mod, h1]
  rw [← V_pow H.n0 H.n1 hc, H.inv _ 1 (cop_pow H.n0 H.n1 hc _) (Nat.gcd_one_left n) h2, V_one H.n0 H.n1]
theorem agr_lt {n : Nat} {E : Nat → Nat} {m : Nat} {h : Nat → Nat} (H : Agr n E m h) {i : Nat} (hi : i < np m) : exW n E m h i < (prtAt m i).o := by
  have e := exW_mul H.n0 H.n1 (H.cop i hi) (agr_dvd H hi)
  have hl := V_lt (E := E) H.n0 H.n1 (h i)
  have ho := (prt_z H.m1 hi).o1
  have : exW n E m h i * dn n (np n) < (prtAt m i).o * dn n (np n) := by rw [e]; exact Nat.mul_lt_mul_of_pos_left hl ho
  exact Nat.lt_of_mul_lt_mul_right this
theorem agree {n : Nat} {E : Nat → Nat} {m : Nat} {h : Nat → Nat} (H : Agr n E m h) {W : Nat → Nat} (hW : ∀ i, i < np m → W i = exW n E m h i) {a : Nat} (ga : Nat.gcd a n = 1) (gm : Nat.gcd a m = 1) : chv m W a = chv n E a := by
  obtain ⟨n0, n1, m0, m1, hcop, hgen, hinv⟩ := id H
  have hdp := dn_pos n1 (np n) (Nat.le_refl _)
  have hmp := dn_pos m1 (np m) (Nat.le_refl _)
  have hral : a % m < m := Nat.mod_lt _ m0
  have hrg : Nat.gcd (a % m) m = 1 := by rw [← Nat.gcd_rec, Nat.gcd_comm]; exact gm
  obtain ⟨c1, c2, c3⟩ := c_at m0 m1 hral hrg
  generalize cOf m (a % m) (np m) = c at *
  have hL : ∀ i, i < np m → dgt m c i = lgs m (a : Int) i := fun i hi => by
    rw [c3 i hi]
    unfold lgs
    rw [rs_cast, Nat.mod_mod_of_dvd _ (prt_z m1 hi).dvd]
  have hpc : ∀ i, i ≤ np m → Nat.gcd (pw h (dgt m c) i) n = 1 := fun i => by
    induction i with
    | zero => intro _; exact Nat.gcd_one_left n
    | succ i ih => intro hi; exact cop_mul n0 n1 (ih (by omega)) (cop_pow n0 n1 (hcop i (by omega)) _)
  have hpm : ∀ i, i ≤ np m → pw h (dgt m c) i % m = yA m c i := fun i => by
    induction i with
    | zero => intro _; rfl
    | succ i ih =>
      intro hi
      rw [yA, mulP_eq (yA_lt m0 i), ← ih (by omega), Nat.mod_mul_mod, pw, Nat.mul_mod, Nat.pow_mod, hgen i (by omega), ← Nat.pow_mod, ← Nat.mul_mod]
  have hpv : ∀ i, i ≤ np m → Vn n E (pw h (dgt m c) i) = sgm (fun i => Vn n E (h i)) (dgt m c) i % dn n (np n) := fun i => by
    induction i with
    | zero => intro _; rw [pw, V_one n0 n1]; exact (Nat.zero_mod _).symm
    | succ i ih =>
      intro hi
      rw [pw, V_mul n0 n1 (hpc i (by omega)) (cop_pow n0 n1 (hcop i (by omega)) _), ih (by omega), V_pow n0 n1 (hcop i (by omega)), sgm, ← Nat.add_mod]
  have hsm : ∀ i, i ≤ np m → sm m (lgs m (a : Int)) W i * dn n (np n) = sgm (fun i => Vn n E (h i)) (dgt m c) i * dn m i := fun i => by
    induction i with
    | zero => intro _; rw [sm, sgm, Nat.zero_mul, Nat.zero_mul]
    | succ i ih =>
      intro hi
      have e := exW_mul n0 n1 (hcop i (by omega)) (agr_dvd H (show i < np m by omega))
      rw [← hW i (by omega)] at e
      rw [sm, sgm, dn, ← hL i (by omega), Nat.add_mul, Nat.add_mul]
      have e1 : sm m (lgs m (a : Int)) W i * (prtAt m i).o * dn n (np n) = sgm (fun i => Vn n E (h i)) (dgt m c) i * dn m i * (prtAt m i).o := by rw [← ih (by omega)]; ac_rfl
      have e2 : W i * dgt m c i * dn m i * dn n (np n) = dgt m c i * Vn n E (h i) * (dn m i * (prtAt m i).o) := by
        calc W i * dgt m c i * dn m i * dn n (np n) = W i * dn n (np n) * (dgt m c i * dn m i) := by ac_rfl
          _ = (prtAt m i).o * Vn n E (h i) * (dgt m c i * dn m i) := by rw [e]
          _ = _ := by ac_rfl
      rw [e1, e2, Nat.mul_assoc]
  have hva : Vn n E a = sgm (fun i => Vn n E (h i)) (dgt m c) (np m) % dn n (np n) := by
    rw [← hpv _ (Nat.le_refl _)]
    exact hinv _ _ ga (hpc _ (Nat.le_refl _)) (by rw [hpm _ (Nat.le_refl _), c2])
  rw [chv_V n0 n1, hva, rt_mod]
  unfold chv
  refine rt_cong hmp hdp ?_
  rw [hsm _ (Nat.le_refl _)]
end HP

/- Dirichlet characters: roots of unity are compared; the fixed calls, walked. -/
namespace HP
open Go.Proofs.YtagigjppbabpkaaDoor
def lit2 (a b : Int) (i : Nat) : Int := if i = 0 then a else b
theorem valR_congr {n : Nat} {E E' : Nat → Nat} (h : ∀ i, i < np n → E i = E' i) (a : Int) : valR n E a = valR n E' a := by
  have : ∀ i, i ≤ np n → sm n (lgs n a) E i = sm n (lgs n a) E' i := fun i => by
    induction i with
    | zero => intro _; rfl
    | succ i ih => intro hi; rw [sm, sm, ih (by omega), h i (by omega)]
  unfold valR chv
  rw [this _ (Nat.le_refl _)]
theorem trv_congr {n : Nat} {E E' : Nat → Nat} (h : ∀ i, i < np n → E i = E' i) (f : Nat) : trv n E f = trv n E' f := by
  unfold trv okv
  simp only [valR_congr h]
theorem cnd_congr {n : Nat} {E E' : Nat → Nat} (h : ∀ i, i < np n → E i = E' i) : cnd n E = cnd n E' := by
  unfold cnd cndI
  simp only [trv_congr h]
theorem oc_congr {n : Nat} {E E' : Nat → Nat} (h : ∀ i, i < np n → E i = E' i) : oc n E (np n) = oc n E' (np n) := by
  have : ∀ i, i ≤ np n → oc n E i = oc n E' i := fun i => by
    induction i with
    | zero => intro _; rfl
    | succ i ih => intro hi; rw [oc, oc, ih (by omega), h i (by omega)]
  exact this _ (Nat.le_refl _)
theorem chk_mk {n : Nat} {X : Nat → Int} {E : Nat → Nat} (n0 : 1 ≤ n) (n1 : n ≤ 60) (h : ∀ i, i < np n → X i = E i ∧ E i < (prtAt n i).o) : chkE n X (np n) = 0 := by
  unfold chkE
  rw [if_neg (by omega), Int.toNat_natCast, if_neg (fun h => h rfl), if_pos (all_range.2 fun i hi => ?_)]
  obtain ⟨h1, h2⟩ := h i hi
  unfold expOk
  rw [h1, decide_eq_true (by omega), decide_eq_true (by omega)]
  rfl
structure QuOk (d : Int) : Prop where
  chk : chkE d.natAbs (quW d) (np d.natAbs) = 0
  cnd : cnd d.natAbs (fun i => (quW d i).toNat) = d.natAbs
  ord : oc d.natAbs (fun i => (quW d i).toNat) (np d.natAbs) = if d = 1 then 1 else 2
  even : ((valR d.natAbs (fun i => (quW d i).toNat) (-1)).2.1 = 0) ↔ 0 < d
theorem qu_ok {d : Int} (h : quE d = 0) : QuOk d := by
  unfold quE at h
  split at h
  · cases h
  · next hr =>
    split at h
    · cases h
    · next h2 =>
      have hc := allB_at qu_chk (show (d + 60).toNat < 121 by omega)
      have e : (((d + 60).toNat : Nat) : Int) - 60 = d := by omega
      rw [e, ← fundC_eq (by omega) (by omega), decide_eq_false (by omega), decide_eq_false h2, Bool.false_or, Bool.false_or] at hc
      unfold quChk at hc
      simp only [Bool.and_eq_true, beq_iff_eq] at hc
      obtain ⟨⟨⟨a1, a2⟩, a3⟩, a4⟩ := hc
      have hq : ∀ i, i < np d.natAbs → quW d i = (qWC d i : Int) := fun i hi => quW_C (by omega) (by omega) (by omega) hi
      have hE : ∀ i, i < np d.natAbs → (quW d i).toNat = qWC d i := fun i hi => by rw [hq i hi, Int.toNat_natCast]
      refine ⟨chk_mk (by omega) (by omega) fun i hi => ⟨hq i hi, ?_⟩, ?_, ?_, ?_⟩
      · have := List.all_eq_true.1 a1 i (List.mem_range.2 hi)
        rwa [Nat.blt_eq] at this
      · rw [cnd_congr hE]; exact Nat.eq_of_beq_eq_true a2
      · rw [oc_congr hE, Nat.eq_of_beq_eq_true a3]
        by_cases h1 : d = 1
        · rw [if_pos h1, decide_eq_true h1]; rfl
        · rw [if_neg h1, decide_eq_false h1]; rfl
      · rw [valR_congr hE]
        constructor
        · intro hz
          rw [hz] at a4
          exact of_decide_eq_true a4.symm
        · intro hp
          rw [decide_eq_true hp] at a4
          exact Nat.eq_of_beq_eq_true a4
end HP
namespace Go.Proofs.YtagigjppbabpkaaDoor
open Go Go.RowKit Go.VG HP
def litL (a b : Int) : List Leaf := [ix a, ix b]
theorem lit2_le (a b : Int) : LeafLe (.sl 1 Nat (fun i j => getL [ix a, ix b] (i * 1 + j)) id 2) (xsL (lit2 a b) 2) := .sl fun i j hi hj => by
  obtain rfl : j = 0 := by omega
  have : i = 0 ∨ i = 1 := by omega
  rcases this with rfl | rfl
  · exact .refl _
  · exact .refl _
theorem run_eqru (a : Bool) (b c : Int) (a' : Bool) (b' c' : Int) (w : World) : (Op.equal 48 (.agg #[.bool a, .int .i64 b, .int .i64 c]) (.agg #[.bool a', .int .i64 b', .int .i64 c'])).run Tryd.prog w = .ok (decide (a = a' ∧ b = b' ∧ c = c')) w := by
  have hs : Tryd.prog.stoodInHeld 48 = false := by kernel_rfl
  have h4 : ∀ x y w, (Op.equalIn 9999 4 (.bool x) (.bool y)).run Tryd.prog w = .ok (x == y) w := fun x y w => by
    unfold Op.equalIn
    simp [run_underlying Tryd.underlying4]
  have h3 : ∀ x y w, (Op.equalIn 9999 3 (.int .i64 x) (.int .i64 y)).run Tryd.prog w = .ok (x == y) w := fun x y w => by
    unfold Op.equalIn
    simp [run_underlying Tryd.underlying3]
  have p0 : ∀ (a : Bool) (b c : Int) w, (part 4 #[.bool a, .int .i64 b, .int .i64 c] 0).run Tryd.prog w = .ok (.bool a) w := fun a b c w => run_part (tysOk_get (l := tysX) (t := 4) tysX_ok rfl) [.bool a, .int .i64 b, .int .i64 c] 0 w (Nat.le_of_ble_eq_true rfl) rfl
  have p1 : ∀ (a : Bool) (b c : Int) w, (part 3 #[.bool a, .int .i64 b, .int .i64 c] 1).run Tryd.prog w = .ok (.int .i64 b) w := fun a b c w => run_part (tysOk_get (l := tysX) (t := 3) tysX_ok rfl) [.bool a, .int .i64 b, .int .i64 c] 1 w (Nat.le_of_ble_eq_true rfl) rfl
  have p2 : ∀ (a : Bool) (b c : Int) w, (part 3 #[.bool a, .int .i64 b, .int .i64 c] 2).run Tryd.prog w = .ok (.int .i64 c) w := fun a b c w => run_part (tysOk_get (l := tysX) (t := 3) tysX_ok rfl) [.bool a, .int .i64 b, .int .i64 c] 2 w (Nat.le_of_ble_eq_true rfl) rfl
  unfold Op.equal Op.maxDepth Op.equalIn
  simp [run_underlying Tryd.underlying48, hs, h3, h4, p0, p1, p2]
  by_cases e1 : a = a' <;> by_cases e2 : b = b' <;> by_cases e3 : c = c' <;> simp [e1, e2, e3]
theorem ru_eqob {K : Bool → Prop} (p q : Bool × Nat × Nat) (h : K (decide (p = q))) : EqOb CX .eql 48 [.x (.bool p.1), ix p.2.1, ix p.2.2] [.x (.bool q.1), ix q.2.1, ix q.2.2] K := by
  refine ⟨⟨decide (p = q), h, fun x y ρ cs cs' w h1 h2 => ?_⟩⟩
  match cs, h1 with
  | [a, b, c], ⟨⟨_, e1⟩, ⟨_, e2⟩, ⟨_, e3⟩, _⟩ =>
  match cs', h2 with
  | [a', b', c'], ⟨⟨_, f1⟩, ⟨_, f2⟩, ⟨_, f3⟩, _⟩ =>
  have e1 : a = .bool p.1 := e1
  have e2 : b = .int .i64 p.2.1 := e2
  have e3 : c = .int .i64 p.2.2 := e3
  have f1 : a' = .bool q.1 := f1
  have f2 : b' = .int .i64 q.2.1 := f2
  have f3 : c' = .int .i64 q.2.2 := f3
  subst e1 e2 e3 f1 f2 f3
  have hg : Tryd.prog.eqGuardType Tryd.prog.depth 48 = false := by kernel_rfl
  have hr := run_eqru p.1 p.2.1 p.2.2 q.1 q.2.1 q.2.2 w
  have e : decide (p.1 = q.1 ∧ (p.2.1 : Int) = q.2.1 ∧ (p.2.2 : Int) = q.2.2) = decide (p = q) := by
    obtain ⟨a, b, c⟩ := p
    obtain ⟨a', b', c'⟩ := q
    rw [decide_eq_decide]
    simp only [Prod.mk.injEq, Int.natCast_inj]
  rw [e] at hr
  show (do eqGuard .eql _ x y _ _; binOp .eql _ _ _ : Sem Value).run Tryd.prog w = _
  simp [eqGuard, hg, binOp, hr]
end Go.Proofs.YtagigjppbabpkaaDoor

/- Dirichlet characters: the fixed calls; generators, lists, quadratic characters: the laws, walked. -/
namespace HP
open Go.Proofs.YtagigjppbabpkaaDoor
theorem awk_chk : np 15 = 2 ∧ genT 15 (prtAt 15 0) = 11 ∧ genT 15 (prtAt 15 1) = 7 ∧ (prtAt 15 0).o = 2 ∧ (prtAt 15 1).o = 4 ∧ chkE 15 (lit2 1 1) 2 = 0 ∧ oc 15 (fun i => (lit2 1 1 i).toNat) (np 15) = 4 ∧ cnd 15 (fun i => (lit2 1 1 i).toNat) = 15 := by decide +kernel
theorem awk_qu : np 8 = 2 ∧ qWC (-8) 0 = 1 ∧ qWC (-8) 1 = 1 ∧ (fundC (-8)).2.2 = 0 ∧ (fundC (-8)).2.1 = 1 := by decide +kernel
theorem awk_quE : quE (-8) = 0 := by
  unfold quE
  rw [fundC_eq (by omega) (by omega), awk_qu.2.2.2.1, awk_qu.2.2.2.2]
  rfl
end HP
namespace Go.Proofs.YtagigjppbabpkaaDoor
open Go Go.RowKit Go.VG HP
set_option maxHeartbeats 4000000 in
theorem awake28_sp : Sp CX 14 [] (bool true) := by
  obtain ⟨a1, a2, a3, a4, a5, a6, a7, a8⟩ := awk_chk
  obtain ⟨b1, b2, b3, _, _⟩ := awk_qu
  obtain ⟨G, hG⟩ : ∃ G : Nat → Nat, ∀ i, G i = genT 15 (prtAt 15 i) := ⟨_, fun _ => rfl⟩
  obtain ⟨O, hO⟩ : ∃ O : Nat → Nat, ∀ i, O i = (prtAt 15 i).o := ⟨_, fun _ => rfl⟩
  have s1 := gens_sp 15 (by omega) (by omega) G O (fun i _ => hG i) (fun i _ => hO i)
  rw [a1] at s1
  have e1 : eqI (fun i => (G i : Int)) 2 (lit2 11 7) 2 = true := eqI_iff.2 ⟨rfl, fun i hi => by
    have : i = 0 ∨ i = 1 := by omega
    rcases this with rfl | rfl
    · rw [hG, a2]; rfl
    · rw [hG, a3]; rfl⟩
  have e2 : eqI (fun i => (O i : Int)) 2 (lit2 2 4) 2 = true := eqI_iff.2 ⟨rfl, fun i hi => by
    have : i = 0 ∨ i = 1 := by omega
    rcases this with rfl | rfl
    · rw [hO, a4]; rfl
    · rw [hO, a5]; rfl⟩
  have s2 := ints_sp (fun i => (G i : Int)) (lit2 11 7) 2 2 (by omega)
  have s3 := ints_sp (fun i => (O i : Int)) (lit2 2 4) 2 2 (by omega)
  rw [e1] at s2
  rw [e2] at s3
  have s4 := Order_sp 15 (lit2 1 1) 2
  have s5 := Conductor_sp 15 (lit2 1 1) 2
  rw [a6, if_pos rfl, show (15 : Int).toNat = 15 from rfl, a7] at s4
  rw [a6, if_pos rfl, show (15 : Int).toNat = 15 from rfl, a8] at s5
  have s6 := Quadratic_sp (-8) (fun _ => 0)
  rw [awk_quE, if_pos rfl, show (-8 : Int).natAbs = 8 from rfl, b1] at s6
  have e3 : (decide (((8 : Nat) : Int) = 8) && eqI (quW (-8)) 2 (lit2 1 1) 2) = true := by
    rw [decide_eq_true (show ((8 : Nat) : Int) = 8 from rfl), Bool.true_and]
    refine eqI_iff.2 ⟨rfl, fun i hi => ?_⟩
    have hi' : i < np (-8 : Int).natAbs := by rw [show (-8 : Int).natAbs = 8 from rfl, b1]; exact hi
    rw [quW_C (by omega) (by omega) (by omega) hi']
    have : i = 0 ∨ i = 1 := by omega
    rcases this with rfl | rfl
    · rw [b2]; rfl
    · rw [b3]; rfl
  have s7 := same_sp ((8 : Nat) : Int) 8 (quW (-8)) (lit2 1 1) 2 2 (by omega)
  rw [e3] at s7
  generalize quW (-8) = Q at *
  clear e1 e2 e3 hG hO a1 a2 a3 a4 a5 a6 a7 a8 b1 b2 b3
  refine fn_sp (C := CX) [] [] tysX_ok mixed Tryd.func14 rfl (by kernel_rfl) Tryd.ntmps14 rfl rfl ?_
  repeat' ((conv => whnf); first | refine Ob.g ?_ | refine Cases.y ?_ | refine Cases.n ?_ | refine Idx.g rfl ?_ | refine Idx.z rfl ?_ | refine DrawOb.start ?_ | refine TryF.f ?_ | refine TryF.next rfl ?_ | refine TryF.other ?_ | refine TryA.g ?_ | refine TryA.next rfl ?_ | refine TryA.other ?_ | refine TryS.g ?_ | refine TryS.next rfl ?_ | refine TryS.other ?_ | refine TryG.g ?_ | refine TryG.next rfl ?_ | refine Sp.g (s1) ?_ | refine Sp.call (s4) (.cons (.agg (.cons (.refl _) (.cons (lit2_le 1 1) .nil))) .nil) rfl (AvLe.refl _) ?_ | refine Sp.call (s5) (.cons (.agg (.cons (.refl _) (.cons (lit2_le 1 1) .nil))) .nil) rfl (AvLe.refl _) ?_ | refine Sp.g (s6) ?_ | refine Sp.call (s2) (.cons (.leaf (ns_xs _ _)) (.cons (.leaf (lit2_le 11 7)) .nil)) rfl (AvLe.refl _) ?_ | refine Sp.call (s3) (.cons (.leaf (ns_xs _ _)) (.cons (.leaf (lit2_le 2 4)) .nil)) rfl (AvLe.refl _) ?_ | refine Sp.call (s7) (.cons (.refl _) (.cons (.agg (.cons (.refl _) (.cons (lit2_le 1 1) .nil))) .nil)) rfl (AvLe.refl _) ?_)
  refine ⟨⟨_, _, rfl, rfl, ?_⟩⟩
  exact AvLe.refl _
theorem gens_bad (n : Int) (h : n < 1 ∨ 60 < n) : Sp CX 15 [int .i64 n] (.tup [.c (.x (.slice none 0 0)), .c (.x (.slice none 0 0)), .c (ix 2)]) := by
  have s0 := dwi_f h
  clear h
  refine fn_sp (C := CX) [] [] tysX_ok mixed Tryd.func15 rfl (by kernel_rfl) Tryd.ntmps15 rfl rfl ?_
  repeat' ((conv => whnf); first | refine Ob.g ?_ | refine Cases.y ?_ | refine Cases.n ?_ | refine Idx.g rfl ?_ | refine Idx.z rfl ?_ | refine DrawOb.start ?_ | refine TryF.f ?_ | refine TryF.next rfl ?_ | refine TryF.other ?_ | refine TryA.g ?_ | refine TryA.next rfl ?_ | refine TryA.other ?_ | refine TryS.g ?_ | refine TryS.next rfl ?_ | refine TryS.other ?_ | refine TryG.g ?_ | refine TryG.next rfl ?_ | refine Sp.g (s0) ?_)
  refine ⟨⟨_, _, rfl, rfl, ?_⟩⟩
  exact AvLe.refl _
set_option maxHeartbeats 4000000 in
theorem law_gens (n : Int) : Sp CX 3 [int .i64 n] (bool true) := by
  have sa := awake28_sp
  have sm := rmod28_sp n
  by_cases h : n < 1 ∨ 60 < n
  · have s1 := gens_bad n h
    rw [if_pos h] at sm
    clear h
    refine fn_sp (C := CX) [] [] tysX_ok mixed Tryd.func3 rfl (by kernel_rfl) Tryd.ntmps3 rfl rfl ?_
    repeat' ((conv => whnf); first | refine Ob.g ?_ | refine Cases.y ?_ | refine Cases.n ?_ | refine Idx.g rfl ?_ | refine Idx.z rfl ?_ | refine DrawOb.start ?_ | refine TryF.f ?_ | refine TryF.next rfl ?_ | refine TryF.other ?_ | refine TryA.g ?_ | refine TryA.next rfl ?_ | refine TryA.other ?_ | refine TryS.g ?_ | refine TryS.next rfl ?_ | refine TryS.other ?_ | refine TryG.g ?_ | refine TryG.next rfl ?_ | refine Sp.g (sa) ?_ | refine Sp.g (s1) ?_ | refine Sp.g (sm) ?_)
    refine ⟨⟨_, _, rfl, rfl, ?_⟩⟩
    exact AvLe.refl _
  · rw [if_neg h] at sm
    obtain ⟨m, rfl⟩ : ∃ m : Nat, n = m := ⟨n.toNat, by omega⟩
    have n0 : 1 ≤ m := by omega
    have n1 : m ≤ 60 := by omega
    clear h
    obtain ⟨G, hG⟩ : ∃ G : Nat → Nat, ∀ i, G i = genT m (prtAt m i) := ⟨_, fun _ => rfl⟩
    obtain ⟨O, hO⟩ : ∃ O : Nat → Nat, ∀ i, O i = (prtAt m i).o := ⟨_, fun _ => rfl⟩
    have s1 := gens_sp m n0 n1 G O (fun i _ => hG i) (fun i _ => hO i)
    have s2 := rgens28_sp m n0 n1 G O (fun i _ => hG i) (fun i _ => hO i)
    have hl := np_le n1
    have e1 : eqI (fun i => (G i : Int)) (np m) (fun i => (G i : Int)) (np m) = true := eqI_iff.2 ⟨rfl, fun _ _ => rfl⟩
    have e2 : eqI (fun i => (O i : Int)) (np m) (fun i => (O i : Int)) (np m) = true := eqI_iff.2 ⟨rfl, fun _ _ => rfl⟩
    have s3 := ints_sp (fun i => (G i : Int)) (fun i => (G i : Int)) (np m) (np m) (by omega)
    have s4 := ints_sp (fun i => (O i : Int)) (fun i => (O i : Int)) (np m) (np m) (by omega)
    have s5 := rphi28_sp m (by omega)
    rw [e1] at s3
    rw [e2] at s4
    rw [cntU_all n0 n1] at s5
    have hb : ∀ i, i ≤ np m → dn m i ≤ 60 := fun i hi => dn_le n1 hi
    have hs : ∀ i, dn m (i + 1) = dn m i * O i := fun i => by rw [hO]; rfl
    clear e1 e2 hG hO
    refine fn_sp (C := CX) [] [] tysX_ok mixed Tryd.func3 rfl (by kernel_rfl) Tryd.ntmps3 rfl rfl ?_
    repeat' ((conv => whnf); first | refine Ob.g ?_ | refine Cases.y ?_ | refine Cases.n ?_ | refine Idx.g rfl ?_ | refine Idx.z rfl ?_ | refine DrawOb.start ?_ | refine TryF.f ?_ | refine TryF.next rfl ?_ | refine TryF.other ?_ | refine TryA.g ?_ | refine TryA.next rfl ?_ | refine TryA.other ?_ | refine TryS.g ?_ | refine TryS.next rfl ?_ | refine TryS.other ?_ | refine TryG.g ?_ | refine TryG.next rfl ?_ | refine Sp.g (sa) ?_ | refine Sp.g (s1) ?_ | refine Sp.g (sm) ?_ | refine Sp.g (s2) ?_)
    refine ⟨⟨Nat, fun i => ⟨[(0, int .i64 m), (3, .v (nsA G (np m))), (4, .v (nsA O (np m))), (5, int .i64 0), (7, .v (nsA G (np m))), (8, .v (nsA O (np m))), (9, int .i64 (dn m i)), (10, int .i64 i)], [], 0⟩, fun i => i ≤ np m, fun i => np m - i, ⟨0, [], Nat.zero_le _, Ent.g⟩, ?_⟩⟩
    intro i hi
    by_cases hd : i < np m
    · have h1 := hb (i + 1) hd
      have h2 := hs i
      have e : ((dn m i : Nat) : Int) * (O i : Nat) = ((dn m (i + 1) : Nat) : Int) := by rw [h2]; push_cast; rfl
      clear hb hs
      repeat' ((conv => whnf); first | refine Ob.g ?_ | refine Cases.y ?_ | refine Cases.n ?_ | refine Idx.g rfl ?_ | refine Idx.z rfl ?_ | refine DrawOb.start ?_ | refine TryF.f ?_ | refine TryF.next rfl ?_ | refine TryF.other ?_ | refine TryA.g ?_ | refine TryA.next rfl ?_ | refine TryA.other ?_ | refine TryS.g ?_ | refine TryS.next rfl ?_ | refine TryS.other ?_ | refine TryG.g ?_ | refine TryG.next rfl ?_)
      exact ⟨i + 1, [], hd, by show np m - (i + 1) < np m - i; omega, by
        refine ⟨?_, .nil, rfl⟩
        repeat (first | exact TmE.nil | refine TmE.cons (by first | exact AvLe.refl _ | exact AvLe.int (by omega) | exact AvLe.int e) ?_)⟩
    · obtain rfl : i = np m := by omega
      clear hb hs
      repeat' ((conv => whnf); first | refine Ob.g ?_ | refine Cases.y ?_ | refine Cases.n ?_ | refine Idx.g rfl ?_ | refine Idx.z rfl ?_ | refine DrawOb.start ?_ | refine TryF.f ?_ | refine TryF.next rfl ?_ | refine TryF.other ?_ | refine TryA.g ?_ | refine TryA.next rfl ?_ | refine TryA.other ?_ | refine TryS.g ?_ | refine TryS.next rfl ?_ | refine TryS.other ?_ | refine TryG.g ?_ | refine TryG.next rfl ?_ | refine Sp.call (s3) (.cons (.leaf (ns_xs _ _)) (.cons (.leaf (ns_xs _ _)) .nil)) rfl (AvLe.refl _) ?_ | refine Sp.call (s4) (.cons (.leaf (ns_xs _ _)) (.cons (.leaf (ns_xs _ _)) .nil)) rfl (AvLe.refl _) ?_ | refine Sp.g (s5) ?_)
      refine ⟨⟨_, _, rfl, rfl, ?_⟩⟩
      exact AvLe.bool (decide_eq_true rfl)
set_option maxHeartbeats 4000000 in
theorem law_all (n : Int) : Sp CX 10 [int .i64 n] (bool true) := by
  have sa := awake28_sp
  have sm := rmod28_sp n
  by_cases h : n < 1 ∨ 60 < n
  · have s1 := All_bad n h
    rw [if_pos h] at sm
    clear h
    refine fn_sp (C := CX) [] [] tysX_ok mixed Tryd.func10 rfl (by kernel_rfl) Tryd.ntmps10 rfl rfl ?_
    repeat' ((conv => whnf); first | refine Ob.g ?_ | refine Cases.y ?_ | refine Cases.n ?_ | refine Idx.g rfl ?_ | refine Idx.z rfl ?_ | refine DrawOb.start ?_ | refine TryF.f ?_ | refine TryF.next rfl ?_ | refine TryF.other ?_ | refine TryA.g ?_ | refine TryA.next rfl ?_ | refine TryA.other ?_ | refine TryS.g ?_ | refine TryS.next rfl ?_ | refine TryS.other ?_ | refine TryG.g ?_ | refine TryG.next rfl ?_ | refine Sp.g (sa) ?_ | refine Sp.g (s1) ?_ | refine Sp.g (sm) ?_)
    refine ⟨⟨_, _, rfl, rfl, ?_⟩⟩
    exact AvLe.refl _
  · rw [if_neg h] at sm
    obtain ⟨m, rfl⟩ : ∃ m : Nat, n = m := ⟨n.toNat, by omega⟩
    have n0 : 1 ≤ m := by omega
    have n1 : m ≤ 60 := by omega
    clear h
    have s1 := (All_sp m n0 n1).weak (r' := .tup [.c (.sl 2 (List Nat) (chmL m) (allZ m (np m)) (dn m (np m))), .c (ix 0)]) (.tup (.cons (.leaf (.sl fun _ _ _ _ => chl_chm _ _ _)) (.cons (.refl _) .nil))) rfl
    have s2 := rall_sp m n0 n1
    have s5 := rphi28_sp m (by omega)
    rw [cntU_all n0 n1] at s5
    have hl := np_le n1
    have hb := dn_le n1 (Nat.le_refl (np m))
    have hlen := allZ_len m (np m)
    generalize allZ m (np m) = Z at *
    generalize dn m (np m) = D at *
    refine fn_sp (C := CX) [] [] tysX_ok mixed Tryd.func10 rfl (by kernel_rfl) Tryd.ntmps10 rfl rfl ?_
    repeat' ((conv => whnf); first | refine Ob.g ?_ | refine Cases.y ?_ | refine Cases.n ?_ | refine Idx.g rfl ?_ | refine Idx.z rfl ?_ | refine DrawOb.start ?_ | refine TryF.f ?_ | refine TryF.next rfl ?_ | refine TryF.other ?_ | refine TryA.g ?_ | refine TryA.next rfl ?_ | refine TryA.other ?_ | refine TryS.g ?_ | refine TryS.next rfl ?_ | refine TryS.other ?_ | refine TryG.g ?_ | refine TryG.next rfl ?_ | refine Sp.g (sa) ?_ | refine Sp.g (s1) ?_ | refine Sp.g (sm) ?_ | refine Sp.g (s2) ?_ | refine Sp.g (s5) ?_)
    refine ⟨⟨Nat, fun i => ⟨[(0, int .i64 m), (3, .v (.c (.sl 2 (List Nat) (chmL m) Z D))), (6, .v (.c (.sl 2 (List Nat) (chmL m) Z D))), (7, int .i64 i)], [], 0⟩, fun i => i ≤ D, fun i => D - i, ⟨0, [], Nat.zero_le _, Ent.g⟩, ?_⟩⟩
    intro i hi
    by_cases hd : i < D
    · have s6 := same_sp m m (fun j => (((Z i).getD j 0 : Nat) : Int)) (fun j => (((Z i).getD j 0 : Nat) : Int)) (Z i).length (Z i).length (by rw [hlen]; omega)
      rw [decide_eq_true rfl, Bool.true_and, show eqI _ _ _ _ = true from eqI_iff.2 ⟨rfl, fun _ _ => rfl⟩] at s6
      repeat' ((conv => whnf); first | refine Ob.g ?_ | refine Cases.y ?_ | refine Cases.n ?_ | refine Idx.g rfl ?_ | refine Idx.z rfl ?_ | refine DrawOb.start ?_ | refine TryF.f ?_ | refine TryF.next rfl ?_ | refine TryF.other ?_ | refine TryA.g ?_ | refine TryA.next rfl ?_ | refine TryA.other ?_ | refine TryS.g ?_ | refine TryS.next rfl ?_ | refine TryS.other ?_ | refine TryG.g ?_ | refine TryG.next rfl ?_ | refine Sp.call (s6) (.cons (.agg (.cons (.refl _) (.cons (.sl fun _ _ _ _ => .refl _) .nil))) (.cons (.agg (.cons (.refl _) (.cons (.sl fun _ _ _ _ => .refl _) .nil))) .nil)) rfl (AvLe.refl _) ?_)
      exact ⟨i + 1, [], hd, by show D - (i + 1) < D - i; omega, Ent.g⟩
    · obtain rfl : i = D := by omega
      repeat' ((conv => whnf); first | refine Ob.g ?_ | refine Cases.y ?_ | refine Cases.n ?_ | refine Idx.g rfl ?_ | refine Idx.z rfl ?_ | refine DrawOb.start ?_ | refine TryF.f ?_ | refine TryF.next rfl ?_ | refine TryF.other ?_ | refine TryA.g ?_ | refine TryA.next rfl ?_ | refine TryA.other ?_ | refine TryS.g ?_ | refine TryS.next rfl ?_ | refine TryS.other ?_ | refine TryG.g ?_ | refine TryG.next rfl ?_)
      refine ⟨⟨_, _, rfl, rfl, ?_⟩⟩
      exact AvLe.refl _
set_option maxHeartbeats 4000000 in
theorem law_quad (d : Int) (h1 : -9223372036854775808 ≤ d) (h2 : d ≤ 9223372036854775807) : Sp CX 5 [int .i64 d] (bool true) := by
  have sa := awake28_sp
  have s1 := Quadratic_sp d (fun _ => 0)
  have s2 := rquad_sp d (fun _ => 0)
  by_cases hq : quE d = 0
  · rw [hq, if_pos rfl] at s1 s2
    obtain ⟨q1, q2, q3, q4⟩ := qu_ok hq
    have hd60 : d ≠ 0 ∧ -60 ≤ d ∧ d ≤ 60 := by
      unfold quE at hq
      split at hq
      · cases hq
      · omega
    have hl := np_le (n := d.natAbs) (by omega)
    have s3 := same_sp d.natAbs d.natAbs (quW d) (quW d) (np d.natAbs) (np d.natAbs) (by omega)
    rw [decide_eq_true rfl, Bool.true_and, show eqI _ _ _ _ = true from eqI_iff.2 ⟨rfl, fun _ _ => rfl⟩] at s3
    have s4 := Conductor_sp d.natAbs (quW d) (np d.natAbs)
    have s5 := Order_sp d.natAbs (quW d) (np d.natAbs)
    have s6 := Even_sp d.natAbs (quW d) (np d.natAbs)
    rw [q1, if_pos rfl, Int.toNat_natCast, q2] at s4
    rw [q1, if_pos rfl, Int.toNat_natCast, q3] at s5
    have e6 : (decide ((0 : Int) = 0) && decide ((valR ((d.natAbs : Int)).toNat (fun i => (quW d i).toNat) (-1)).2.1 = 0)) = decide (0 < d) := by
      rw [decide_eq_true rfl, Bool.true_and, Int.toNat_natCast, decide_eq_decide]
      exact q4
    rw [q1, e6] at s6
    clear q1 q2 q3 q4 e6 hq
    generalize quW d = Q at *
    generalize np d.natAbs = l at *
    have hmax : ((d.natAbs : Nat) : Int) = if d < -d then -d else d := by split <;> omega
    generalize d.natAbs = n at *
    by_cases hd1 : d = 1
    · rw [if_pos hd1] at s5
      subst hd1
      have hn : n = 1 := by rw [if_neg (by omega)] at hmax; omega
      subst hn
      refine fn_sp (C := CX) [] [] tysX_ok mixed Tryd.func5 rfl (by kernel_rfl) Tryd.ntmps5 rfl rfl ?_
      repeat' ((conv => whnf); first | refine Ob.g ?_ | refine Cases.y ?_ | refine Cases.n ?_ | refine Idx.g rfl ?_ | refine Idx.z rfl ?_ | refine DrawOb.start ?_ | refine TryF.f ?_ | refine TryF.next rfl ?_ | refine TryF.other ?_ | refine TryA.g ?_ | refine TryA.next rfl ?_ | refine TryA.other ?_ | refine TryS.g ?_ | refine TryS.next rfl ?_ | refine TryS.other ?_ | refine TryG.g ?_ | refine TryG.next rfl ?_ | refine Sp.g (sa) ?_ | refine Sp.g (s1) ?_ | refine Sp.g (s2) ?_ | refine Sp.g (s3) ?_ | refine Sp.g (s4) ?_ | refine Sp.g (s5) ?_ | refine Sp.g (s6) ?_)
      refine ⟨⟨_, _, rfl, rfl, ?_⟩⟩
      exact AvLe.refl _
    · rw [if_neg hd1] at s5
      by_cases hp : 0 < d
      · have hb1 : (true == decide (0 < d)) = true := by rw [decide_eq_true hp]; rfl
        rw [decide_eq_true hp] at s6
        refine fn_sp (C := CX) [] [] tysX_ok mixed Tryd.func5 rfl (by kernel_rfl) Tryd.ntmps5 rfl rfl ?_
        repeat' ((conv => whnf); first | refine Ob.g ?_ | refine Cases.y ?_ | refine Cases.n ?_ | refine Idx.g rfl ?_ | refine Idx.z rfl ?_ | refine DrawOb.start ?_ | refine TryF.f ?_ | refine TryF.next rfl ?_ | refine TryF.other ?_ | refine TryA.g ?_ | refine TryA.next rfl ?_ | refine TryA.other ?_ | refine TryS.g ?_ | refine TryS.next rfl ?_ | refine TryS.other ?_ | refine TryG.g ?_ | refine TryG.next rfl ?_ | refine Sp.g (sa) ?_ | refine Sp.g (s1) ?_ | refine Sp.g (s2) ?_ | refine Sp.g (s3) ?_ | refine Sp.g (s4) ?_ | refine Sp.g (s5) ?_ | refine Sp.g (s6) ?_)
        refine ⟨⟨_, _, rfl, rfl, ?_⟩⟩
        exact AvLe.refl _
      · have hb1 : (false == decide (0 < d)) = true := by rw [decide_eq_false hp]; rfl
        rw [decide_eq_false hp] at s6
        refine fn_sp (C := CX) [] [] tysX_ok mixed Tryd.func5 rfl (by kernel_rfl) Tryd.ntmps5 rfl rfl ?_
        repeat' ((conv => whnf); first | refine Ob.g ?_ | refine Cases.y ?_ | refine Cases.n ?_ | refine Idx.g rfl ?_ | refine Idx.z rfl ?_ | refine DrawOb.start ?_ | refine TryF.f ?_ | refine TryF.next rfl ?_ | refine TryF.other ?_ | refine TryA.g ?_ | refine TryA.next rfl ?_ | refine TryA.other ?_ | refine TryS.g ?_ | refine TryS.next rfl ?_ | refine TryS.other ?_ | refine TryG.g ?_ | refine TryG.next rfl ?_ | refine Sp.g (sa) ?_ | refine Sp.g (s1) ?_ | refine Sp.g (s2) ?_ | refine Sp.g (s3) ?_ | refine Sp.g (s4) ?_ | refine Sp.g (s5) ?_ | refine Sp.g (s6) ?_)
        refine ⟨⟨_, _, rfl, rfl, ?_⟩⟩
        exact AvLe.refl _
  · rw [if_neg hq] at s1 s2
    have s3 := same_sp 0 0 (fun _ => 0) (fun _ => 0) 0 0 (by omega)
    rw [decide_eq_true rfl, Bool.true_and, show eqI _ _ _ _ = true from eqI_iff.2 ⟨rfl, fun _ _ => rfl⟩] at s3
    generalize quE d = e at *
    refine fn_sp (C := CX) [] [] tysX_ok mixed Tryd.func5 rfl (by kernel_rfl) Tryd.ntmps5 rfl rfl ?_
    repeat' ((conv => whnf); first | refine Ob.g ?_ | refine Cases.y ?_ | refine Cases.n ?_ | refine Idx.g rfl ?_ | refine Idx.z rfl ?_ | refine DrawOb.start ?_ | refine TryF.f ?_ | refine TryF.next rfl ?_ | refine TryF.other ?_ | refine TryA.g ?_ | refine TryA.next rfl ?_ | refine TryA.other ?_ | refine TryS.g ?_ | refine TryS.next rfl ?_ | refine TryS.other ?_ | refine TryG.g ?_ | refine TryG.next rfl ?_ | refine Sp.g (sa) ?_ | refine Sp.g (s1) ?_ | refine Sp.g (s2) ?_ | refine Sp.g (s3) ?_)
    refine ⟨⟨_, _, rfl, rfl, ?_⟩⟩
    exact AvLe.refl _
end Go.Proofs.YtagigjppbabpkaaDoor

/- Dirichlet characters: the laws of checks, values, products, walked. -/
namespace HP
open Go.Proofs.YtagigjppbabpkaaDoor
theorem oneB_neg {n : Nat} {E : Nat → Nat} : oneB (valR n E (-1)) = decide ((valR n E (-1)).2.1 = 0) := by
  have hg : Int.gcd (-1) n = 1 := by simp
  unfold oneB valR
  rw [if_pos hg]
  simp only [Bool.not_false, Bool.true_and]
  by_cases h : (chv n E (-1)).1 = 0
  · rw [h]; rfl
  · rw [nbeq_ff h, decide_eq_false h]
theorem gcd_rs {n : Nat} (n0 : 1 ≤ n) (a : Int) : Nat.gcd (rs a n) n = Int.gcd a n := by
  have e1 : ((rs a n : Nat) : Int) = a % n := rs_nat (by omega)
  have e := gcd_emod a n
  rw [← e1, Int.gcd_natCast_natCast] at e
  exact e
theorem valR_rs {n : Nat} (n0 : 1 ≤ n) (n1 : n ≤ 60) (E : Nat → Nat) (a : Int) : valR n E a = valR n E ((rs a n : Nat) : Int) := by
  unfold valR
  rw [Int.gcd_natCast_natCast, gcd_rs n0, chv_rs n0 n1]
theorem val_per {n : Nat} (n0 : 1 ≤ n) (n1 : n ≤ 60) (E : Nat → Nat) (a k : Int) : valR n E (a + k * n) = valR n E a := by
  rw [valR_rs n0 n1 E (a + k * n), valR_rs n0 n1 E a]
  congr 2
  unfold rs
  rw [Int.add_mul_emod_self_right]
theorem val_mul {n : Nat} (n0 : 1 ≤ n) (n1 : n ≤ 60) (E : Nat → Nat) (a b : Int) : valR n E (a * b) = tms (valR n E a) (valR n E b) := by
  have hm : rs (a * b) n % n = (rs a n * rs b n) % n := by
    have e : ((rs (a * b) n % n : Nat) : Int) = ((rs a n * rs b n % n : Nat) : Int) := by
      push_cast
      rw [rs_nat (by omega), rs_nat (by omega), rs_nat (by omega), Int.emod_emod_of_dvd _ (Int.dvd_refl _), ← Int.mul_emod]
    exact Int.ofNat.inj e
  have hrl : rs (a * b) n % n = rs (a * b) n := Nat.mod_eq_of_lt (rs_lt (by omega))
  have hgm : Nat.gcd (rs (a * b) n) n = Nat.gcd (rs a n * rs b n) n := by
    rw [← hrl, hm, ← Nat.gcd_rec, Nat.gcd_comm]
  rw [valR_rs n0 n1 E (a * b), valR_rs n0 n1 E a, valR_rs n0 n1 E b]
  generalize rs a n = x at *
  generalize rs b n = y at *
  generalize rs (a * b) n = z at *
  rw [hrl] at hm
  have hD := dn_pos n1 (np n) (Nat.le_refl _)
  have hv : ∀ x : Nat, Nat.gcd x n = 1 → valR n E (x : Int) = (false, rt (Vn n E x) (dn n (np n))) := fun x hx => by
    unfold valR
    rw [if_pos (by rw [Int.gcd_natCast_natCast]; exact hx), chv_V n0 n1]
  have hz : ∀ x : Nat, Nat.gcd x n ≠ 1 → valR n E (x : Int) = (true, 0, 0) := fun x hx => by
    unfold valR
    rw [if_neg (by rw [Int.gcd_natCast_natCast]; exact hx)]
  by_cases gx : Nat.gcd x n = 1
  · by_cases gy : Nat.gcd y n = 1
    · have gz : Nat.gcd z n = 1 := by rw [hgm]; exact cop_mul n0 n1 gx gy
      have hV : Vn n E z = (Vn n E x + Vn n E y) % dn n (np n) := by
        rw [← V_mul n0 n1 gx gy]
        exact V_mod n0 n1 (by rw [hm, Nat.mod_mod])
      rw [hv z gz, hv x gx, hv y gy]
      unfold tms
      rw [if_neg (by simp)]
      congr 1
      show rt _ _ = rt ((rt (Vn n E x) (dn n (np n))).1 * (rt (Vn n E y) (dn n (np n))).2 + (rt (Vn n E y) (dn n (np n))).1 * (rt (Vn n E x) (dn n (np n))).2) ((rt (Vn n E x) (dn n (np n))).2 * (rt (Vn n E y) (dn n (np n))).2)
      rw [rt_times hD hD, ← Nat.add_mul, rt_mul hD hD, hV, rt_mod]
    · have gz : Nat.gcd z n ≠ 1 := fun h => gy (Nat.Coprime.coprime_dvd_left (Nat.dvd_mul_left y x) (by rw [hgm] at h; exact h))
      rw [hz z gz, hz y gy]
      unfold tms
      rw [if_pos (.inr rfl)]
  · have gz : Nat.gcd z n ≠ 1 := fun h => gx (Nat.Coprime.coprime_dvd_left (Nat.dvd_mul_right x y) (by rw [hgm] at h; exact h))
    rw [hz z gz, hz x gx]
    unfold tms
    rw [if_pos (.inl rfl)]
theorem val_or {n : Nat} (n1 : n ≤ 60) (E : Nat → Nat) (a : Int) : ((valR n E a).1 = true ∨ 1 ≤ (valR n E a).2.2) ∧ (valR n E a).2.1 ≤ 1000 ∧ (valR n E a).2.2 ≤ 1000 := by
  by_cases hg : Int.gcd a n = 1
  · obtain ⟨v1, v2, v3, _⟩ := val_bd n1 E hg
    exact ⟨.inr v1, by omega, by omega⟩
  · have : valR n E a = (true, 0, 0) := by unfold valR; rw [if_neg hg]
    rw [this]
    exact ⟨.inl rfl, by simp, by simp⟩
end HP
namespace Go.Proofs.YtagigjppbabpkaaDoor
open Go Go.RowKit Go.VG HP
theorem in18_sp (a : Int) : Sp CX 33 [int .i64 a] (bool (decide (-1073741824 ≤ a ∧ a ≤ 1073741824))) := by
  by_cases h1 : -1073741824 ≤ a
  · by_cases h2 : a ≤ 1073741824
    · rw [decide_eq_true ⟨h1, h2⟩]
      refine fn_sp (C := CX) [] [] tysX_ok mixed Tryd.func33 rfl (by kernel_rfl) Tryd.ntmps33 rfl rfl ?_
      repeat' ((conv => whnf); first | refine Ob.g ?_ | refine Cases.y ?_ | refine Cases.n ?_ | refine Idx.g rfl ?_ | refine Idx.z rfl ?_ | refine DrawOb.start ?_ | refine TryF.f ?_ | refine TryF.next rfl ?_ | refine TryF.other ?_ | refine TryA.g ?_ | refine TryA.next rfl ?_ | refine TryA.other ?_ | refine TryS.g ?_ | refine TryS.next rfl ?_ | refine TryS.other ?_ | refine TryG.g ?_ | refine TryG.next rfl ?_)
      refine ⟨⟨_, _, rfl, rfl, ?_⟩⟩
      exact AvLe.bool (by first | rfl | exact decide_eq_true (by omega))
    · rw [decide_eq_false (by omega)]
      refine fn_sp (C := CX) [] [] tysX_ok mixed Tryd.func33 rfl (by kernel_rfl) Tryd.ntmps33 rfl rfl ?_
      repeat' ((conv => whnf); first | refine Ob.g ?_ | refine Cases.y ?_ | refine Cases.n ?_ | refine Idx.g rfl ?_ | refine Idx.z rfl ?_ | refine DrawOb.start ?_ | refine TryF.f ?_ | refine TryF.next rfl ?_ | refine TryF.other ?_ | refine TryA.g ?_ | refine TryA.next rfl ?_ | refine TryA.other ?_ | refine TryS.g ?_ | refine TryS.next rfl ?_ | refine TryS.other ?_ | refine TryG.g ?_ | refine TryG.next rfl ?_)
      refine ⟨⟨_, _, rfl, rfl, ?_⟩⟩
      exact AvLe.bool (by first | rfl | exact decide_eq_false (by omega))
  · rw [decide_eq_false (by omega)]
    refine fn_sp (C := CX) [] [] tysX_ok mixed Tryd.func33 rfl (by kernel_rfl) Tryd.ntmps33 rfl rfl ?_
    repeat' ((conv => whnf); first | refine Ob.g ?_ | refine Cases.y ?_ | refine Cases.n ?_ | refine Idx.g rfl ?_ | refine Idx.z rfl ?_ | refine DrawOb.start ?_ | refine TryF.f ?_ | refine TryF.next rfl ?_ | refine TryF.other ?_ | refine TryA.g ?_ | refine TryA.next rfl ?_ | refine TryA.other ?_ | refine TryS.g ?_ | refine TryS.next rfl ?_ | refine TryS.other ?_ | refine TryG.g ?_ | refine TryG.next rfl ?_)
    refine ⟨⟨_, _, rfl, rfl, ?_⟩⟩
    exact AvLe.bool (by first | rfl | exact decide_eq_false (by omega))
set_option maxHeartbeats 8000000 in
theorem law_checks28 (N : Int) (X : Nat → Int) (l : Nat) : Sp CX 4 [chA N X l] (bool true) := by
  have sa := awake28_sp
  by_cases hl : 100 < l
  · refine fn_sp (C := CX) [] [] tysX_ok mixed Tryd.func4 rfl (by kernel_rfl) Tryd.ntmps4 rfl rfl ?_
    repeat' ((conv => whnf); first | refine Ob.g ?_ | refine Cases.y ?_ | refine Cases.n ?_ | refine Idx.g rfl ?_ | refine Idx.z rfl ?_ | refine DrawOb.start ?_ | refine TryF.f ?_ | refine TryF.next rfl ?_ | refine TryF.other ?_ | refine TryA.g ?_ | refine TryA.next rfl ?_ | refine TryA.other ?_ | refine TryS.g ?_ | refine TryS.next rfl ?_ | refine TryS.other ?_ | refine TryG.g ?_ | refine TryG.next rfl ?_ | refine Sp.g (sa) ?_)
    refine ⟨⟨_, _, rfl, rfl, ?_⟩⟩
    exact AvLe.refl _
  · have s0 := copy_sp N X l (by omega)
    have s1 := Order_sp N X l
    have s2 := Conductor_sp N X l
    have s3 := Even_sp N X l
    have s4 := rchk_sp N X l
    have s5 := chk_sp N X l
    by_cases hc : chkE N X l = 0
    · obtain ⟨n, rfl, ok⟩ := chk_out hc
      rw [hc, if_pos rfl, Int.toNat_natCast] at s1 s2
      rw [hc, decide_eq_true (show (0 : Int) = 0 from rfl), Bool.true_and, Int.toNat_natCast] at s3
      rw [hc] at s4 s5
      have t1 := rord_sp ok
      have t2 := rcnd_sp ok
      have t3 := revn_sp ok
      rw [oneB_neg] at t3
      clear hc ok
      generalize oc n (fun i => (X i).toNat) (np n) = a at *
      generalize cnd n (fun i => (X i).toNat) = b at *
      generalize decide ((valR n (fun i => (X i).toNat) (-1)).2.1 = 0) = o at *
      cases o with
      | true =>
        refine fn_sp (C := CX) [] [] tysX_ok mixed Tryd.func4 rfl (by kernel_rfl) Tryd.ntmps4 rfl rfl ?_
        repeat' ((conv => whnf); first | refine Ob.g ?_ | refine Cases.y ?_ | refine Cases.n ?_ | refine Idx.g rfl ?_ | refine Idx.z rfl ?_ | refine DrawOb.start ?_ | refine TryF.f ?_ | refine TryF.next rfl ?_ | refine TryF.other ?_ | refine TryA.g ?_ | refine TryA.next rfl ?_ | refine TryA.other ?_ | refine TryS.g ?_ | refine TryS.next rfl ?_ | refine TryS.other ?_ | refine TryG.g ?_ | refine TryG.next rfl ?_ | refine Sp.g (sa) ?_ | refine Sp.g (s0) ?_ | refine Sp.g (s1) ?_ | refine Sp.g (s2) ?_ | refine Sp.g (s3) ?_ | refine Sp.g (s4) ?_ | refine Sp.g (s5) ?_ | refine Sp.g (t1) ?_ | refine Sp.g (t2) ?_ | refine Sp.g (t3) ?_)
        refine ⟨⟨_, _, rfl, rfl, ?_⟩⟩
        exact AvLe.refl _
      | false =>
        refine fn_sp (C := CX) [] [] tysX_ok mixed Tryd.func4 rfl (by kernel_rfl) Tryd.ntmps4 rfl rfl ?_
        repeat' ((conv => whnf); first | refine Ob.g ?_ | refine Cases.y ?_ | refine Cases.n ?_ | refine Idx.g rfl ?_ | refine Idx.z rfl ?_ | refine DrawOb.start ?_ | refine TryF.f ?_ | refine TryF.next rfl ?_ | refine TryF.other ?_ | refine TryA.g ?_ | refine TryA.next rfl ?_ | refine TryA.other ?_ | refine TryS.g ?_ | refine TryS.next rfl ?_ | refine TryS.other ?_ | refine TryG.g ?_ | refine TryG.next rfl ?_ | refine Sp.g (sa) ?_ | refine Sp.g (s0) ?_ | refine Sp.g (s1) ?_ | refine Sp.g (s2) ?_ | refine Sp.g (s3) ?_ | refine Sp.g (s4) ?_ | refine Sp.g (s5) ?_ | refine Sp.g (t1) ?_ | refine Sp.g (t2) ?_ | refine Sp.g (t3) ?_)
        refine ⟨⟨_, _, rfl, rfl, ?_⟩⟩
        exact AvLe.refl _
    · rw [if_neg hc] at s1 s2
      rw [decide_eq_false hc, Bool.false_and] at s3
      generalize chkE N X l = e at *
      refine fn_sp (C := CX) [] [] tysX_ok mixed Tryd.func4 rfl (by kernel_rfl) Tryd.ntmps4 rfl rfl ?_
      repeat' ((conv => whnf); first | refine Ob.g ?_ | refine Cases.y ?_ | refine Cases.n ?_ | refine Idx.g rfl ?_ | refine Idx.z rfl ?_ | refine DrawOb.start ?_ | refine TryF.f ?_ | refine TryF.next rfl ?_ | refine TryF.other ?_ | refine TryA.g ?_ | refine TryA.next rfl ?_ | refine TryA.other ?_ | refine TryS.g ?_ | refine TryS.next rfl ?_ | refine TryS.other ?_ | refine TryG.g ?_ | refine TryG.next rfl ?_ | refine Sp.g (sa) ?_ | refine Sp.g (s0) ?_ | refine Sp.g (s1) ?_ | refine Sp.g (s2) ?_ | refine Sp.g (s3) ?_ | refine Sp.g (s4) ?_ | refine Sp.g (s5) ?_)
      refine ⟨⟨_, _, rfl, rfl, ?_⟩⟩
      exact AvLe.refl _
theorem ru_self {K : Bool → Prop} (p : Bool × Nat × Nat) (h : K true) : EqOb CX .eql 48 [.x (.bool p.1), ix p.2.1, ix p.2.2] [.x (.bool p.1), ix p.2.1, ix p.2.2] K := ru_eqob p p (by rw [decide_eq_true rfl]; exact h)
theorem ru_zero {K : Bool → Prop} (h : K true) : EqOb CX .eql 48 [.x (.bool false), ix 0, ix 0] [.x (.bool false), ix 0, ix 0] K := ru_self (false, 0, 0) h
set_option maxHeartbeats 8000000 in
theorem law_values (N : Int) (X : Nat → Int) (l : Nat) (a : Int) (h1 : -9223372036854775808 ≤ a) (h2 : a ≤ 9223372036854775807) : Sp CX 6 [chA N X l, int .i64 a] (bool true) := by
  have sa := awake28_sp
  by_cases hl : 100 < l
  · refine fn_sp (C := CX) [] [] tysX_ok mixed Tryd.func6 rfl (by kernel_rfl) Tryd.ntmps6 rfl rfl ?_
    repeat' ((conv => whnf); first | refine Ob.g ?_ | refine Cases.y ?_ | refine Cases.n ?_ | refine Idx.g rfl ?_ | refine Idx.z rfl ?_ | refine DrawOb.start ?_ | refine TryF.f ?_ | refine TryF.next rfl ?_ | refine TryF.other ?_ | refine TryA.g ?_ | refine TryA.next rfl ?_ | refine TryA.other ?_ | refine TryS.g ?_ | refine TryS.next rfl ?_ | refine TryS.other ?_ | refine TryG.g ?_ | refine TryG.next rfl ?_ | refine Sp.g (sa) ?_)
    refine ⟨⟨_, _, rfl, rfl, ?_⟩⟩
    exact AvLe.refl _
  · have s1 := Value_sp N X l a
    have s2 := rchk_sp N X l
    have s3 := in18_sp a
    by_cases hc : chkE N X l = 0
    · obtain ⟨n, rfl, ok⟩ := chk_out hc
      rw [hc] at s2
      by_cases hr : a < -1073741824 ∨ 1073741824 < a
      · have e : vR n X l a = ((false, 0, 0), 2) := by unfold vR; rw [if_neg (by rw [hc]; simp), if_pos hr]
        rw [e] at s1
        rw [decide_eq_false (by omega)] at s3
        clear e ok hc
        refine fn_sp (C := CX) [] [] tysX_ok mixed Tryd.func6 rfl (by kernel_rfl) Tryd.ntmps6 rfl rfl ?_
        repeat' ((conv => whnf); first | refine Ob.g ?_ | refine Cases.y ?_ | refine Cases.n ?_ | refine Idx.g rfl ?_ | refine Idx.z rfl ?_ | refine DrawOb.start ?_ | refine TryF.f ?_ | refine TryF.next rfl ?_ | refine TryF.other ?_ | refine TryA.g ?_ | refine TryA.next rfl ?_ | refine TryA.other ?_ | refine TryS.g ?_ | refine TryS.next rfl ?_ | refine TryS.other ?_ | refine TryG.g ?_ | refine TryG.next rfl ?_ | refine Sp.g (sa) ?_ | refine Sp.g (s1) ?_ | refine Sp.g (s2) ?_ | refine Sp.g (s3) ?_ | (refine ru_zero ?_))
        refine ⟨⟨_, _, rfl, rfl, ?_⟩⟩
        exact AvLe.refl _
      · have e : vR n X l a = (valR n (fun i => (X i).toNat) a, 0) := by unfold vR; rw [if_neg (by rw [hc]; simp), if_neg hr]; rfl
        rw [e] at s1
        rw [decide_eq_true (by omega)] at s3
        have s4 := rval_sp ok a (by omega) (by omega)
        generalize valR n (fun i => (X i).toNat) a = p at *
        clear e ok hc
        refine fn_sp (C := CX) [] [] tysX_ok mixed Tryd.func6 rfl (by kernel_rfl) Tryd.ntmps6 rfl rfl ?_
        repeat' ((conv => whnf); first | refine Ob.g ?_ | refine Cases.y ?_ | refine Cases.n ?_ | refine Idx.g rfl ?_ | refine Idx.z rfl ?_ | refine DrawOb.start ?_ | refine TryF.f ?_ | refine TryF.next rfl ?_ | refine TryF.other ?_ | refine TryA.g ?_ | refine TryA.next rfl ?_ | refine TryA.other ?_ | refine TryS.g ?_ | refine TryS.next rfl ?_ | refine TryS.other ?_ | refine TryG.g ?_ | refine TryG.next rfl ?_ | refine Sp.g (sa) ?_ | refine Sp.g (s1) ?_ | refine Sp.g (s2) ?_ | refine Sp.g (s3) ?_ | refine Sp.g (s4) ?_ | (refine ru_self p ?_))
        refine ⟨⟨_, _, rfl, rfl, ?_⟩⟩
        exact AvLe.refl _
    · have e : vR N X l a = ((false, 0, 0), chkE N X l) := by unfold vR; rw [if_pos hc]
      rw [e] at s1
      generalize chkE N X l = e at *
      refine fn_sp (C := CX) [] [] tysX_ok mixed Tryd.func6 rfl (by kernel_rfl) Tryd.ntmps6 rfl rfl ?_
      repeat' ((conv => whnf); first | refine Ob.g ?_ | refine Cases.y ?_ | refine Cases.n ?_ | refine Idx.g rfl ?_ | refine Idx.z rfl ?_ | refine DrawOb.start ?_ | refine TryF.f ?_ | refine TryF.next rfl ?_ | refine TryF.other ?_ | refine TryA.g ?_ | refine TryA.next rfl ?_ | refine TryA.other ?_ | refine TryS.g ?_ | refine TryS.next rfl ?_ | refine TryS.other ?_ | refine TryG.g ?_ | refine TryG.next rfl ?_ | refine Sp.g (sa) ?_ | refine Sp.g (s1) ?_ | refine Sp.g (s2) ?_ | (refine ru_zero ?_))
      refine ⟨⟨_, _, rfl, rfl, ?_⟩⟩
      exact AvLe.refl _
set_option maxHeartbeats 8000000 in
theorem law_mult (N : Int) (X : Nat → Int) (l : Nat) (a b k : Int) (ha1 : -32768 ≤ a) (ha2 : a ≤ 32767) (hb1 : -32768 ≤ b) (hb2 : b ≤ 32767) (hk1 : -128 ≤ k) (hk2 : k ≤ 127) :
    Sp CX 7 [chA N X l, .v (.agg [.x (.int .i16 a), .x (.int .i16 b)]), int .i8 k] (bool true) := by
  have sa := awake28_sp
  by_cases hl : 100 < l
  · refine fn_sp (C := CX) [] [] tysX_ok mixed Tryd.func7 rfl (by kernel_rfl) Tryd.ntmps7 rfl rfl ?_
    repeat' ((conv => whnf); first | refine Ob.g ?_ | refine Cases.y ?_ | refine Cases.n ?_ | refine Idx.g rfl ?_ | refine Idx.z rfl ?_ | refine DrawOb.start ?_ | refine TryF.f ?_ | refine TryF.next rfl ?_ | refine TryF.other ?_ | refine TryA.g ?_ | refine TryA.next rfl ?_ | refine TryA.other ?_ | refine TryS.g ?_ | refine TryS.next rfl ?_ | refine TryS.other ?_ | refine TryG.g ?_ | refine TryG.next rfl ?_ | refine Sp.g (sa) ?_)
    refine ⟨⟨_, _, rfl, rfl, ?_⟩⟩
    exact AvLe.refl _
  · have m1 : -1000 < a.tmod 1000 ∧ a.tmod 1000 < 1000 := by
      have := Int.tmod_lt_of_pos a (show (0 : Int) < 1000 by omega)
      have := Int.lt_tmod_of_pos a (show (0 : Int) < 1000 by omega)
      omega
    have m2 : -1000 < b.tmod 1000 ∧ b.tmod 1000 < 1000 := by
      have := Int.tmod_lt_of_pos b (show (0 : Int) < 1000 by omega)
      have := Int.lt_tmod_of_pos b (show (0 : Int) < 1000 by omega)
      omega
    obtain ⟨x, hx⟩ : ∃ x, x = a.tmod 1000 := ⟨_, rfl⟩
    obtain ⟨y, hy⟩ : ∃ y, y = b.tmod 1000 := ⟨_, rfl⟩
    have m3 := m1
    have m4 := m2
    rw [← hx] at m1
    rw [← hy] at m2
    have s1 := Value_sp N X l x
    have s2 := Value_sp N X l y
    by_cases hc : chkE N X l = 0
    · obtain ⟨n, rfl, ok⟩ := chk_out hc
      have n0 := ok.n0
      have n1 := ok.n1
      have mm : -1000000 ≤ x * y ∧ x * y ≤ 1000000 := by
        have h : (x * y).natAbs ≤ 1000 * 1000 := by rw [Int.natAbs_mul]; exact Nat.mul_le_mul (by omega) (by omega)
        omega
      have mk : -10000 ≤ k * n ∧ k * n ≤ 10000 := by
        have h : (k * (n : Int)).natAbs ≤ 128 * 60 := by rw [Int.natAbs_mul]; exact Nat.mul_le_mul (by omega) (by omega)
        omega
      have h3e : a.tmod 1000 * b.tmod 1000 = x * y := by rw [hx, hy]
      have h4e : a.tmod 1000 + k * n = x + k * n := by rw [hx]
      have mm2 := mm
      rw [hx, hy] at mm2
      have s3 := Value_sp n X l (x * y)
      have s4 := Value_sp n X l (x + k * n)
      have e : ∀ z, -1073741824 ≤ z → z ≤ 1073741824 → vR n X l z = (valR n (fun i => (X i).toNat) z, 0) := fun z z1 z2 => by unfold vR; rw [if_neg (by rw [hc]; simp), if_neg (by omega)]; rfl
      rw [e _ (by omega) (by omega)] at s1 s2 s3 s4
      rw [val_mul n0 n1] at s3
      rw [val_per n0 n1] at s4
      have p1 := val_or n1 (fun i => (X i).toNat) x
      have p2 := val_or n1 (fun i => (X i).toNat) y
      generalize valR n (fun i => (X i).toNat) x = p at *
      generalize valR n (fun i => (X i).toNat) y = q at *
      have s5 := times_sp p q (by
        rcases p1.1 with h | h
        · exact .inl h
        · rcases p2.1 with h' | h'
          · exact .inr (.inl h')
          · exact .inr (.inr ⟨h, h'⟩)) p1.2.1 p1.2.2 p2.2.1 p2.2.2
      generalize tms p q = t at *
      clear e ok hc p1 p2
      refine fn_sp (C := CX) [] [] tysX_ok mixed Tryd.func7 rfl (by kernel_rfl) Tryd.ntmps7 rfl rfl ?_
      repeat' ((conv => whnf); first | (refine Idx.mk ⟨1, rfl, by decide, ?_⟩) | refine Ob.g ?_ | refine Cases.y ?_ | refine Cases.n ?_ | refine Idx.g rfl ?_ | refine Idx.z rfl ?_ | refine DrawOb.start ?_ | refine TryF.f ?_ | refine TryF.next rfl ?_ | refine TryF.other ?_ | refine TryA.g ?_ | refine TryA.next rfl ?_ | refine TryA.other ?_ | refine TryS.g ?_ | refine TryS.next rfl ?_ | refine TryS.other ?_ | refine TryG.g ?_ | refine TryG.next rfl ?_ | refine Sp.g (sa) ?_ | refine Sp.call (s1) (.cons (.refl _) (.cons (.int hx.symm) .nil)) rfl (AvLe.refl _) ?_ | refine Sp.call (s2) (.cons (.refl _) (.cons (.int hy.symm) .nil)) rfl (AvLe.refl _) ?_ | refine Sp.call (s3) (.cons (.refl _) (.cons (.int h3e) .nil)) rfl (AvLe.refl _) ?_ | refine Sp.call (s4) (.cons (.refl _) (.cons (.int h4e) .nil)) rfl (AvLe.refl _) ?_ | refine Sp.g (s5) ?_ | (refine ru_self t ?_) | (refine ru_self p ?_))
      refine ⟨⟨_, _, rfl, rfl, ?_⟩⟩
      exact AvLe.refl _
    · have e : ∀ z, vR N X l z = ((false, 0, 0), chkE N X l) := fun z => by unfold vR; rw [if_pos hc]
      rw [e] at s1 s2
      clear e
      generalize chkE N X l = e at *
      refine fn_sp (C := CX) [] [] tysX_ok mixed Tryd.func7 rfl (by kernel_rfl) Tryd.ntmps7 rfl rfl ?_
      repeat' ((conv => whnf); first | (refine Idx.mk ⟨1, rfl, by decide, ?_⟩) | refine Ob.g ?_ | refine Cases.y ?_ | refine Cases.n ?_ | refine Idx.g rfl ?_ | refine Idx.z rfl ?_ | refine DrawOb.start ?_ | refine TryF.f ?_ | refine TryF.next rfl ?_ | refine TryF.other ?_ | refine TryA.g ?_ | refine TryA.next rfl ?_ | refine TryA.other ?_ | refine TryS.g ?_ | refine TryS.next rfl ?_ | refine TryS.other ?_ | refine TryG.g ?_ | refine TryG.next rfl ?_ | refine Sp.g (sa) ?_ | refine Sp.call (s1) (.cons (.refl _) (.cons (.int hx.symm) .nil)) rfl (AvLe.refl _) ?_ | refine Sp.call (s2) (.cons (.refl _) (.cons (.int hy.symm) .nil)) rfl (AvLe.refl _) ?_)
      refine ⟨⟨_, _, rfl, rfl, ?_⟩⟩
      exact AvLe.bool (decide_eq_true rfl)
end Go.Proofs.YtagigjppbabpkaaDoor

/- Dirichlet characters, plain: extended and primitive characters; how many characters are 1 at a unit. -/
namespace HP
open Go.Proofs.YtagigjppbabpkaaDoor
theorem agr_ext {n m : Nat} {E : Nat → Nat} (n0 : 1 ≤ n) (n1 : n ≤ 60) (m0 : 1 ≤ m) (m1 : m ≤ 60) (h : n ∣ m) : Agr n E m (fun i => genT m (prtAt m i)) where
  n0 := n0
  n1 := n1
  m0 := m0
  m1 := m1
  cop i hi := Nat.Coprime.coprime_dvd_right h (gen_unit m1 hi)
  gen i _ := rfl
  inv a b _ _ hab := V_mod n0 n1 (by rw [← Nat.mod_mod_of_dvd a h, hab, Nat.mod_mod_of_dvd b h])
theorem two_zero {D a b c : Nat} (ha : a < D) (hb : b < D) (hc : c < D) (h1 : (a + c) % D = 0) (h2 : (b + c) % D = 0) : a = b := by
  have key : ∀ x, x < D → (x + c) % D = 0 → x + c = 0 ∨ x + c = D := fun x hx h => by
    obtain ⟨t, ht⟩ := Nat.dvd_of_mod_eq_zero h
    rcases Nat.lt_or_ge t 2 with h2 | h2
    · have : t = 0 ∨ t = 1 := by omega
      rcases this with rfl | rfl
      · left; simpa using ht
      · right; simpa using ht
    · have : D * 2 ≤ D * t := Nat.mul_le_mul_left _ h2
      omega
  rcases key a ha h1 with h | h <;> rcases key b hb h2 with h' | h' <;> omega
theorem triv_V {n f : Nat} {E : Nat → Nat} (n0 : 1 ≤ n) (n1 : n ≤ 60) (f0 : 1 ≤ f) (ht : trv n E f = true) {d : Nat} (hd0 : 1 ≤ d) (hdn : d ≤ n) (hg : Nat.gcd d n = 1) (hf : d % f = 1 % f) : Vn n E d = 0 := by
  have h1 : (d - 1) % f = 0 := Nat.sub_mod_eq_zero_of_mod_eq hf
  obtain ⟨j, hj⟩ := Nat.dvd_of_mod_eq_zero h1
  have hjn : j < n := by
    have : j ≤ f * j := Nat.le_mul_of_pos_left j f0
    omega
  unfold trv at ht
  have h2 := List.all_eq_true.1 ht j (List.mem_range.2 hjn)
  have e : 1 + j * f = d := by rw [Nat.mul_comm]; omega
  rw [e, Bool.or_eq_true, decide_eq_true_eq] at h2
  rcases h2 with h2 | h2
  · omega
  · rw [← V_zero n0 n1]
    unfold okv valR at h2
    rw [if_pos (by rw [Int.gcd_natCast_natCast]; exact hg), Bool.false_or] at h2
    exact Nat.eq_of_beq_eq_true h2
theorem agr_pri {n : Nat} {E : Nat → Nat} (n0 : 1 ≤ n) (n1 : n ≤ 60) : Agr n E (cnd n E) (fun i => liftT n (cnd n E) (genT (cnd n E) (prtAt (cnd n E) i))) := by
  obtain ⟨d1, d2, d3⟩ := cnd_dvd n0 n1 E
  have ht := (cndI_spec n0 n1 E).2.1
  generalize cnd n E = f at *
  have hlk : ∀ i, i < np f → ∃ k, liftK n f (genT f (prtAt f i)) = some k ∧ liftT n f (genT f (prtAt f i)) = genT f (prtAt f i) + k * f := fun i hi => by
    obtain ⟨k, hk⟩ := lift_at n0 n1 d1 d2 d3 hi
    exact ⟨k, hk, by unfold liftT; rw [hk]; rfl⟩
  refine ⟨n0, n1, d2, d3, fun i hi => ?_, fun i hi => ?_, fun a b ga gb hab => ?_⟩
  · obtain ⟨k, hk, e⟩ := hlk i hi
    obtain ⟨_, k2, _⟩ := find_range hk
    rw [e]
    simpa using k2
  · obtain ⟨k, hk, e⟩ := hlk i hi
    rw [e, Nat.add_mul_mod_self_right]
  · have hbl : b % n < n := Nat.mod_lt _ n0
    have gbn : Nat.gcd (b % n) n = 1 := by rw [← Nat.gcd_rec, Nat.gcd_comm]; exact gb
    obtain ⟨c, hc⟩ := inv_at n0 n1 hbl gbn
    have hbc : b * c % n = 1 % n := by rw [← hc, Nat.mod_mul_mod]
    have gbc : Nat.gcd (b * c) n = 1 := by
      rw [Nat.gcd_comm, Nat.gcd_rec, hbc, ← Nat.gcd_rec]; simp
    have gc : Nat.gcd c n = 1 := Nat.Coprime.coprime_dvd_left (Nat.dvd_mul_left c b) gbc
    have e1 : (Vn n E b + Vn n E c) % dn n (np n) = 0 := by
      rw [← V_mul n0 n1 gb gc, V_mod n0 n1 hbc, V_one n0 n1]
    have e2 : (Vn n E a + Vn n E c) % dn n (np n) = 0 := by
      rw [← V_mul n0 n1 ga gc]
      have gac := cop_mul n0 n1 ga gc
      have hm : Vn n E (a * c) = Vn n E (a * c % n) := V_mod n0 n1 (by rw [Nat.mod_mod])
      rw [hm]
      have gd : Nat.gcd (a * c % n) n = 1 := by rw [← Nat.gcd_rec, Nat.gcd_comm]; exact gac
      have hdf : (a * c % n) % f = 1 % f := by
        rw [Nat.mod_mod_of_dvd _ d1, Nat.mul_mod, hab, ← Nat.mul_mod, ← Nat.mod_mod_of_dvd (b * c) d1, hbc, Nat.mod_mod_of_dvd _ d1]
      have hdl : a * c % n < n := Nat.mod_lt _ n0
      by_cases h0 : a * c % n = 0
      · rw [h0, Nat.gcd_zero_left] at gd
        rw [V_mod n0 n1 (b := 1) (by rw [gd, Nat.mod_one, Nat.mod_one]), V_one n0 n1]
      · exact triv_V n0 n1 d2 ht (by omega) (by omega) gd hdf
    exact two_zero (V_lt n0 n1 a) (V_lt n0 n1 b) (V_lt n0 n1 c) e2 e1
theorem agr_val {n : Nat} {E : Nat → Nat} {m : Nat} {h : Nat → Nat} (H : Agr n E m h) {W : Nat → Nat} (hW : ∀ i, i < np m → W i = exW n E m h i) {a : Nat} (ga : Nat.gcd a n = 1) (gm : Nat.gcd a m = 1) : valR m W (a : Int) = valR n E (a : Int) := by
  unfold valR
  rw [if_pos (by rw [Int.gcd_natCast_natCast]; exact gm), if_pos (by rw [Int.gcd_natCast_natCast]; exact ga), agree H hW ga gm]
theorem agr_valI {n : Nat} {E : Nat → Nat} {m : Nat} {h : Nat → Nat} (H : Agr n E m h) (hnm : n ∣ m) {W : Nat → Nat} (hW : ∀ i, i < np m → W i = exW n E m h i) {a : Int} (gm : Int.gcd a m = 1) : valR m W a = valR n E a := by
  have n0 := H.n0
  have m0 := H.m0
  have g2 : Nat.gcd (rs a m) m = 1 := by rw [gcd_rs m0]; exact gm
  have e : valR n E a = valR n E ((rs a m : Nat) : Int) := by
    rw [valR_rs n0 H.n1 E a, valR_rs n0 H.n1 E ((rs a m : Nat) : Int)]
    congr 2
    rw [rs_cast, rs_rs m0 n0 hnm]
  rw [valR_rs m0 H.m1 W a, e]
  exact agr_val H hW (Nat.Coprime.coprime_dvd_right hnm g2) g2
/-- at its own generators a character has its exponents -/
theorem sm_delta {n : Nat} {E L : Nat → Nat} {i : Nat} (hL : ∀ j, j < np n → L j = if i = j then 1 else 0) : ∀ k, k ≤ np n → (k ≤ i → sm n L E k = 0) ∧ (i < k → (prtAt n i).o * sm n L E k = E i * dn n k)
  | 0, _ => ⟨fun _ => rfl, fun h => absurd h (Nat.not_lt_zero _)⟩
  | k + 1, hk => by
    obtain ⟨h1, h2⟩ := sm_delta hL k (by omega)
    have hl := hL k (by omega)
    refine ⟨fun h => ?_, fun h => ?_⟩
    · rw [sm, h1 (by omega), hl, if_neg (by omega)]; simp
    · rw [sm, dn]
      by_cases hik : i = k
      · subst hik
        rw [h1 (Nat.le_refl _), hl, if_pos rfl, Nat.zero_mul, Nat.zero_add, Nat.mul_one]; ac_rfl
      · rw [hl, if_neg hik, Nat.mul_zero, Nat.zero_mul, Nat.add_zero, ← Nat.mul_assoc, h2 (by omega), Nat.mul_assoc]
theorem own_exW {n : Nat} {E : Nat → Nat} (n0 : 1 ≤ n) (n1 : n ≤ 60) {i : Nat} (hi : i < np n) (hE : E i < (prtAt n i).o) : exW n E n (fun i => genT n (prtAt n i)) i = E i := by
  have H := agr_ext (E := E) n0 n1 n0 n1 (Nat.dvd_refl n)
  have e1 := exW_mul (E := E) (m := n) (h := fun i => genT n (prtAt n i)) (i := i) n0 n1 (H.cop i hi) (agr_dvd H hi)
  have hL : ∀ j, j < np n → lgs n ((genT n (prtAt n i) : Nat) : Int) j = if i = j then 1 else 0 := fun j hj => by
    have h1 := List.all_eq_true.1 (allB_at glog_chk (show n < 61 by omega)) i (List.mem_range.2 hi)
    have h2 := Nat.eq_of_beq_eq_true (List.all_eq_true.1 h1 j (List.mem_range.2 hj))
    unfold lgs
    rw [rs_cast, h2]
    by_cases hij : i = j
    · subst hij; rw [Nat.beq_refl, if_pos rfl]; rfl
    · rw [nbeq_ff hij, if_neg hij]; rfl
  have h2 := (sm_delta (E := E) hL (np n) (Nat.le_refl _)).2 hi
  have hD := dn_pos n1 (np n) (Nat.le_refl _)
  have ho := (prt_z n1 hi).o1
  have hlt : sm n (lgs n ((genT n (prtAt n i) : Nat) : Int)) E (np n) < dn n (np n) := by
    have : (prtAt n i).o * sm n (lgs n ((genT n (prtAt n i) : Nat) : Int)) E (np n) < (prtAt n i).o * dn n (np n) := by
      rw [h2]; exact Nat.mul_lt_mul_of_pos_right hE hD
    exact Nat.lt_of_mul_lt_mul_left this
  unfold Vn at e1
  rw [Nat.mod_eq_of_lt hlt, h2] at e1
  exact Nat.eq_of_mul_eq_mul_right hD e1
theorem exW_congr {n m f : Nat} {E W : Nat → Nat} {h : Nat → Nat} {i : Nat} (hv : valR f W ((h i : Nat) : Int) = valR n E ((h i : Nat) : Int)) : exW f W m h i = exW n E m h i := by unfold exW; rw [hv]
structure PriOk (n : Nat) (E : Nat → Nat) (f : Nat) (W : Nat → Nat) : Prop where
  lt : ∀ i, i < np f → W i < (prtAt f i).o
  cnd : cnd f W = f
  back : ∀ i, i < np n → exW f W n (fun i => genT n (prtAt n i)) i = E i
theorem pri_ok {n : Nat} {E : Nat → Nat} (n0 : 1 ≤ n) (n1 : n ≤ 60) (hE : ∀ i, i < np n → E i < (prtAt n i).o) {W : Nat → Nat} (hW : ∀ i, i < np (cnd n E) → W i = exW n E (cnd n E) (fun i => liftT n (cnd n E) (genT (cnd n E) (prtAt (cnd n E) i))) i) : PriOk n E (cnd n E) W := by
  have H := agr_pri (E := E) n0 n1
  obtain ⟨d1, d2, d3⟩ := cnd_dvd n0 n1 E
  obtain ⟨_, c2⟩ := cnd_least n0 n1 E
  have hag : ∀ {a : Nat}, Nat.gcd a n = 1 → valR (cnd n E) W (a : Int) = valR n E (a : Int) := fun ga => agr_val H hW ga (Nat.Coprime.coprime_dvd_right d1 ga)
  refine ⟨fun i hi => by rw [hW i hi]; exact agr_lt H hi, ?_, fun i hi => ?_⟩
  · clear hW H
    generalize cnd n E = f at *
    obtain ⟨g1, g2, g3⟩ := cnd_dvd d2 d3 W
    have ht := (cndI_spec d2 d3 W).2.1
    generalize HP.cnd f W = f' at *
    have hle := Nat.le_of_dvd d2 g1
    rcases Nat.lt_or_eq_of_le hle with hlt | heq
    · exfalso
      have hp := c2 f' g2 hlt
      have : preT n E f' n = true := by
        refine (preT_trv g2).2 ⟨Nat.dvd_trans g1 d1, ?_⟩
        unfold trv
        rw [List.all_eq_true]
        intro j _
        rw [Bool.or_eq_true, decide_eq_true_eq]
        by_cases hj : n < 1 + j * f'
        · exact .inl hj
        · right
          by_cases hg : Nat.gcd (1 + j * f') n = 1
          · have hgf := Nat.Coprime.coprime_dvd_right d1 hg
            have ev := hag hg
            have hb0 : Nat.gcd ((1 + j * f') % f) f = 1 := by rw [← Nat.gcd_rec, Nat.gcd_comm]; exact hgf
            have hbm : ((1 + j * f') % f) % f' = 1 % f' := by rw [Nat.mod_mod_of_dvd _ g1, Nat.add_mul_mod_self_right]
            have hbl : (1 + j * f') % f < f := Nat.mod_lt _ d2
            have hb1 : 1 ≤ (1 + j * f') % f := by
              rcases Nat.eq_zero_or_pos ((1 + j * f') % f) with h | h
              · rw [h, Nat.gcd_zero_left] at hb0; omega
              · exact h
            have hV := triv_V d2 d3 g2 ht hb1 (by omega) hb0 hbm
            have hok : okv f W ((1 + j * f' : Nat) : Int) = true := by
              have e2 : valR f W ((1 + j * f' : Nat) : Int) = valR f W (((1 + j * f') % f : Nat) : Int) := by rw [valR_rs d2 d3 W ((1 + j * f' : Nat) : Int), rs_cast]
              unfold okv
              rw [e2]
              unfold valR
              rw [if_pos (by rw [Int.gcd_natCast_natCast]; exact hb0), (V_zero d2 d3 _).2 hV]
              rfl
            unfold okv at hok ⊢
            rw [ev] at hok
            exact hok
          · exact okv_zero hg
      rw [this] at hp
      cases hp
    · exact heq
  · rw [exW_congr (n := n) (m := n) (f := cnd n E) (E := E) (W := W) (h := fun i => genT n (prtAt n i)) (i := i) (hag (gen_unit n1 hi))]
    exact own_exW n0 n1 hi (hE i hi)
end HP

