/- Own texts joined: DiLa, DiLb, DiLc, DiLd. -/
import Derived.Test.YtedfcemebdlgfaaGreatDoorPkDiV
/- Dirichlet characters: the fixed calls; what the kernel reckons of quadratic characters. -/
namespace HP
open Go.Proofs.YtedfcemebdlgfaaGreatDoor
def jacC2 (d : Int) (a : Nat) : Int := prodL (fun p e => kr d p ^ e) (facC a)
theorem jac_C2 {d : Int} {a : Nat} (h1 : 1 ≤ a) (h2 : a ≤ 120) : jac d a = jacC2 d a := by
  unfold jac jacC2
  rw [ext_facs _ _ h1, ← facs_C h1 h2]
def qWC (d : Int) (i : Nat) : Nat := bif decide (jacC2 d (genT d.natAbs (prtAt d.natAbs i)) < 0) then (prtAt d.natAbs i).o / 2 else 0
theorem gen_pos {n i : Nat} (_n0 : 1 ≤ n) (n1 : n ≤ 60) (hi : i < np n) : 1 ≤ genT n (prtAt n i) := by
  have := gen_unit n1 hi
  rcases Nat.eq_zero_or_pos (genT n (prtAt n i)) with h | h
  · rw [h, Nat.gcd_zero_left] at this
    have hp0 : np n = 0 := by rw [this]; decide
    omega
  · exact h
theorem quW_C {d : Int} {i : Nat} (h0 : d ≠ 0) (h1 : -60 ≤ d) (h2 : d ≤ 60) (hi : i < np d.natAbs) : quW d i = (qWC d i : Int) := by
  have n1 : d.natAbs ≤ 60 := by omega
  have hg1 := gen_pos (show 1 ≤ d.natAbs by omega) n1 hi
  have hgl := genT_lt (prt_z n1 hi)
  unfold quW qWC quV
  rw [kro_pos (by omega), Int.toNat_natCast, jac_C2 hg1 (by omega)]
  by_cases hj : jacC2 d (genT d.natAbs (prtAt d.natAbs i)) < 0
  · rw [if_pos hj, decide_eq_true hj, Nat.one_mul]; rfl
  · rw [if_neg hj, decide_eq_false hj, Nat.zero_mul, Nat.zero_div]; rfl
def quChk (d : Int) : Bool := (List.range (np d.natAbs)).all (fun i => Nat.blt (qWC d i) (prtAt d.natAbs i).o) && Nat.beq (cnd d.natAbs (qWC d)) d.natAbs &&
  Nat.beq (oc d.natAbs (qWC d) (np d.natAbs)) (bif decide (d = 1) then 1 else 2) && (Nat.beq (valR d.natAbs (qWC d) (-1)).2.1 0 == decide (0 < d))
theorem qu_chk : allB 121 (fun k => decide ((k : Int) - 60 = 0) || decide ((fundC ((k : Int) - 60)).2.2 ≠ 0 ∨ (fundC ((k : Int) - 60)).2.1 ≠ 1) || quChk ((k : Int) - 60)) = true := by decide +kernel
end HP

/- Dirichlet characters, plain: logarithms of products; values are multiplicative. -/
namespace HP
open Go.Proofs.YtedfcemebdlgfaaGreatDoor
def multP (P : Prt) : Bool := allB P.q fun a => Nat.gcd a P.q != 1 || allB P.q fun b => Nat.gcd b P.q != 1 || (lg P (a * b % P.q) % P.o == (lg P a + lg P b) % P.o)
theorem mult_chk : allB 61 (fun q => (prts q).all fun P => !Nat.beq P.q q || multP P) = true := by decide +kernel
theorem part_own : allB 61 (fun n => (prts n).all fun P => (prts P.q).any fun R => R.r == P.r && R.o == P.o && R.q == P.q) = true := by decide +kernel
end HP

/- Dirichlet characters, plain: values are multiplicative; characters that agree. -/
namespace HP
open Go.Proofs.YtedfcemebdlgfaaGreatDoor
theorem gord_chk : allB 61 (fun n => Nat.beq n 0 || (List.range (np n)).all fun i => Nat.beq (mulP n (genT n (prtAt n i)) (1 % n) (prtAt n i).o) (1 % n)) = true := by decide +kernel
theorem glog_chk : allB 61 (fun n => (List.range (np n)).all fun i => (List.range (np n)).all fun j => Nat.beq (lg (prtAt n j) (genT n (prtAt n i) % (prtAt n j).q)) (bif Nat.beq i j then 1 else 0)) = true := by decide +kernel
theorem inv_chk : allB 61 (fun n => Nat.beq n 0 || allB n fun b => Nat.gcd b n != 1 || (List.range n).any fun c => Nat.beq (b * c % n) (1 % n)) = true := by decide +kernel
theorem nbeq_ff {a b : Nat} (h : a ≠ b) : Nat.beq a b = false := by
  rw [Bool.eq_false_iff]
  intro x
  exact h (Nat.eq_of_beq_eq_true x)
theorem inv_at {n b : Nat} (h1 : 1 ≤ n) (h2 : n ≤ 60) (hb : b < n) (hg : Nat.gcd b n = 1) : ∃ c, b * c % n = 1 % n := by
  have h := allB_at (allB_pos inv_chk h1 (show n < 61 by omega)) hb
  rw [hg] at h
  have h : ((List.range n).any fun c => Nat.beq (b * c % n) (1 % n)) = true := by simpa using h
  obtain ⟨c, _, hc⟩ := List.any_eq_true.1 h
  exact ⟨c, Nat.eq_of_beq_eq_true hc⟩
theorem part_mult {n : Nat} (hn : n ≤ 60) {P : Prt} (hP : P ∈ prts n) {a b : Nat} (ha : a < P.q) (hb : b < P.q) (ga : Nat.gcd a P.q = 1) (gb : Nat.gcd b P.q = 1) : lg P (a * b % P.q) % P.o = (lg P a + lg P b) % P.o := by
  have h := List.all_eq_true.1 (allB_at part_own (show n < 61 by omega)) P hP
  obtain ⟨R, hR, hRR⟩ := List.any_eq_true.1 h
  simp only [Bool.and_eq_true, beq_iff_eq] at hRR
  obtain ⟨⟨r1, r2⟩, r3⟩ := hRR
  have e : R = P := by
    obtain ⟨x, y, z⟩ := R
    obtain ⟨u, v, w⟩ := P
    simp only at r1 r2 r3
    rw [r1, r2, r3]
  subst e
  have hq := (part_ok hn hP).q60
  have h2 := List.all_eq_true.1 (allB_at mult_chk (show R.q < 61 by omega)) R hR
  rw [Nat.beq_refl] at h2
  have h2 : multP R = true := h2
  unfold multP at h2
  have h3 := allB_at h2 ha
  rw [ga, bne_self_eq_false, Bool.false_or] at h3
  have h4 := allB_at h3 hb
  rw [gb] at h4
  simpa using h4
theorem rs_cast {a q : Nat} : rs (a : Int) q = a % q := by
  unfold rs
  have : ((a : Int) % (q : Int)) = ((a % q : Nat) : Int) := (Int.natCast_emod a q).symm
  rw [this]; rfl
/-- the sum, modulo the number of all characters -/
def Vn (n : Nat) (E : Nat → Nat) (a : Nat) : Nat := sm n (lgs n a) E (np n) % dn n (np n)
set_option linter.unusedSectionVars false
section
variable {n : Nat} {E : Nat → Nat}
theorem sm_mod {L M : Nat → Nat} : ∀ {i : Nat}, (∀ j, j < i → L j % (prtAt n j).o = M j % (prtAt n j).o) → sm n L E i % dn n i = sm n M E i % dn n i
  | 0, _ => rfl
  | i + 1, h => by
    have ih := sm_mod (i := i) fun j hj => h j (by omega)
    have e : ∀ L : Nat → Nat, sm n L E (i + 1) % dn n (i + 1) = ((sm n L E i % dn n i) * (prtAt n i).o + (E i * (L i % (prtAt n i).o) % (prtAt n i).o) * dn n i) % (dn n i * (prtAt n i).o) := fun L => by
      rw [sm, dn, Nat.add_mod, Nat.mul_mod_mul_right, show dn n i * (prtAt n i).o = (prtAt n i).o * dn n i from Nat.mul_comm _ _, Nat.mul_mod_mul_right]
      rw [Nat.mul_mod (E i) (L i), Nat.mul_mod (E i) (L i % _), Nat.mod_mod]
    rw [e, e, ih, h i (by omega)]
theorem sm_add {L M : Nat → Nat} : ∀ i, sm n (fun j => L j + M j) E i = sm n L E i + sm n M E i
  | 0 => rfl
  | i + 1 => by rw [sm, sm, sm, sm_add i]; simp only [Nat.mul_add, Nat.add_mul]; omega
variable (n0 : 1 ≤ n) (n1 : n ≤ 60)
include n0 n1
theorem lgs_mul {a b : Nat} (ga : Nat.gcd a n = 1) (gb : Nat.gcd b n = 1) {j : Nat} (hj : j < np n) : lgs n ((a * b : Nat) : Int) j % (prtAt n j).o = (lgs n (a : Int) j + lgs n (b : Int) j) % (prtAt n j).o := by
  have ok := prt_z n1 hj
  have hq : 0 < (prtAt n j).q := by have := ok.q3; omega
  unfold lgs
  rw [rs_cast, rs_cast, rs_cast, Nat.mul_mod]
  have g : ∀ x, Nat.gcd x n = 1 → Nat.gcd (x % (prtAt n j).q) (prtAt n j).q = 1 := fun x hx => by
    rw [← Nat.gcd_rec, Nat.gcd_comm]
    exact Nat.Coprime.coprime_dvd_right ok.dvd hx
  exact part_mult n1 (prtAt_mem hj) (Nat.mod_lt _ hq) (Nat.mod_lt _ hq) (g a ga) (g b gb)
theorem V_mul {a b : Nat} (ga : Nat.gcd a n = 1) (gb : Nat.gcd b n = 1) : Vn n E (a * b) = (Vn n E a + Vn n E b) % dn n (np n) := by
  unfold Vn
  rw [sm_mod (M := fun j => lgs n (a : Int) j + lgs n (b : Int) j) fun j hj => lgs_mul n0 n1 ga gb hj, sm_add, Nat.add_mod]
theorem V_lt (a : Nat) : Vn n E a < dn n (np n) := Nat.mod_lt _ (dn_pos n1 _ (Nat.le_refl _))
theorem V_one : Vn n E 1 = 0 := by
  have h := V_mul (E := E) n0 n1 (a := 1) (b := 1) (Nat.gcd_one_left n) (Nat.gcd_one_left n)
  rw [Nat.mul_one] at h
  have hl := V_lt (E := E) n0 n1 1
  generalize Vn n E 1 = v at *
  generalize dn n (np n) = D at *
  rcases Nat.lt_or_ge (v + v) D with h1 | h1
  · rw [Nat.mod_eq_of_lt h1] at h; omega
  · rw [Nat.mod_eq_sub_mod h1, Nat.mod_eq_of_lt (by omega)] at h; omega
theorem cop_mul {a b : Nat} (ga : Nat.gcd a n = 1) (gb : Nat.gcd b n = 1) : Nat.gcd (a * b) n = 1 := Nat.Coprime.mul_left ga gb
theorem cop_pow {a : Nat} (ga : Nat.gcd a n = 1) (k : Nat) : Nat.gcd (a ^ k) n = 1 := Nat.Coprime.pow_left k ga
theorem V_pow {a : Nat} (ga : Nat.gcd a n = 1) : ∀ k, Vn n E (a ^ k) = k * Vn n E a % dn n (np n)
  | 0 => by rw [Nat.pow_zero, V_one n0 n1, Nat.zero_mul, Nat.zero_mod]
  | k + 1 => by
    rw [Nat.pow_succ, V_mul n0 n1 (cop_pow n0 n1 ga k) ga, V_pow ga k, Nat.add_mul, Nat.one_mul, Nat.mod_add_mod]
theorem V_mod {a b : Nat} (h : a % n = b % n) : Vn n E a = Vn n E b := by
  unfold Vn
  congr 1
  refine sm_congr fun j hj => ?_
  unfold lgs
  rw [rs_cast, rs_cast, ← Nat.mod_mod_of_dvd a (prt_z n1 hj).dvd, h, Nat.mod_mod_of_dvd b (prt_z n1 hj).dvd]
theorem chv_V (a : Nat) : chv n E a = rt (Vn n E a) (dn n (np n)) := by unfold chv Vn; rw [rt_mod]
theorem chv_rs (a : Int) : chv n E a = chv n E ((rs a n : Nat) : Int) := by
  unfold chv
  congr 1
  refine sm_congr fun j hj => ?_
  unfold lgs
  rw [rs_cast, rs_rs (by omega) (by have := (prt_z n1 hj).q3; omega) (prt_z n1 hj).dvd]
theorem V_zero (a : Nat) : (chv n E a).1 = 0 ↔ Vn n E a = 0 := by
  rw [chv_V n0 n1, rt_zero (dn_pos n1 _ (Nat.le_refl _)), Nat.mod_eq_of_lt (V_lt n0 n1 a)]
end
theorem mulP_eq {m g y : Nat} (hy : y < m) : ∀ k, mulP m g y k = y * g ^ k % m
  | 0 => by rw [Nat.pow_zero, Nat.mul_one, Nat.mod_eq_of_lt hy]; rfl
  | k + 1 => by rw [mulP, mulP_eq hy k, Nat.mod_mul_mod, Nat.pow_succ, Nat.mul_assoc]
def pw (h L : Nat → Nat) : Nat → Nat
  | 0 => 1
  | i + 1 => pw h L i * h i ^ L i
def sgm (v L : Nat → Nat) : Nat → Nat
  | 0 => 0
  | i + 1 => sgm v L i + L i * v i
/-- the values at h, told with the orders of the parts of m -/
theorem exW_mul {n : Nat} {E : Nat → Nat} (n0 : 1 ≤ n) (n1 : n ≤ 60) {m : Nat} {h : Nat → Nat} {i : Nat} (hg : Nat.gcd (h i) n = 1) (hd : (prtAt m i).o * Vn n E (h i) % dn n (np n) = 0) :
    exW n E m h i * dn n (np n) = (prtAt m i).o * Vn n E (h i) := by
  have hdp := dn_pos n1 (np n) (Nat.le_refl _)
  have hv : valR n E ((h i : Nat) : Int) = (false, chv n E ((h i : Nat) : Int)) := by unfold valR; rw [if_pos (by rw [Int.gcd_natCast_natCast]; exact hg)]
  unfold exW
  rw [hv, chv_V n0 n1]
  obtain ⟨f1, f2, _, _, _⟩ := rt_facts (N := Vn n E (h i)) hdp
  rw [Nat.mod_eq_of_lt (V_lt n0 n1 _)] at f1
  obtain ⟨t, ht⟩ := Nat.dvd_of_mod_eq_zero hd
  generalize rt (Vn n E (h i)) (dn n (np n)) = P at *
  generalize dn n (np n) = D at *
  generalize Vn n E (h i) = v at *
  generalize (prtAt m i).o = o at *
  have e : P.1 * o = P.2 * t := by
    apply Nat.eq_of_mul_eq_mul_right hdp
    calc P.1 * o * D = P.1 * D * o := by ac_rfl
      _ = v * P.2 * o := by rw [f1]
      _ = P.2 * (o * v) := by ac_rfl
      _ = P.2 * (D * t) := by rw [ht]
      _ = P.2 * t * D := by ac_rfl
  show P.1 * o / P.2 * D = o * v
  rw [e, Nat.mul_div_cancel_left _ f2, ht, Nat.mul_comm]
structure Agr (n : Nat) (E : Nat → Nat) (m : Nat) (h : Nat → Nat) : Prop where
  n0 : 1 ≤ n
  n1 : n ≤ 60
  m0 : 1 ≤ m
  m1 : m ≤ 60
  cop : ∀ i, i < np m → Nat.gcd (h i) n = 1
  gen : ∀ i, i < np m → h i % m = genT m (prtAt m i) % m
  inv : ∀ a b, Nat.gcd a n = 1 → Nat.gcd b n = 1 → a % m = b % m → Vn n E a = Vn n E b
theorem agr_dvd {n : Nat} {E : Nat → Nat} {m : Nat} {h : Nat → Nat} (H : Agr n E m h) {i : Nat} (hi : i < np m) : (prtAt m i).o * Vn n E (h i) % dn n (np n) = 0 := by
  have hc := H.cop i hi
  have h1 := List.all_eq_true.1 (allB_pos gord_chk H.m0 (show m < 61 by have := H.m1; omega)) i (List.mem_range.2 hi)
  have h1 := Nat.eq_of_beq_eq_true h1
  have m0 := H.m0
  rw [mulP_eq (Nat.mod_lt _ m0), Nat.mod_mul_mod, Nat.one_mul] at h1
  have h2 : h i ^ (prtAt m i).o % m = 1 % m := by rw [Nat.pow_mod, H.gen i hi, ← Nat.pow_mod, h1]
  rw [← V_pow H.n0 H.n1 hc, H.inv _ 1 (cop_pow H.n0 H.n1 hc _) (Nat.gcd_one_left n) h2, V_one H.n0 H.n1]
theorem agr_lt {n : Nat} {E : Nat → Nat} {m : Nat} {h : Nat → Nat} (H : Agr n E m h) {i : Nat} (hi : i < np m) : exW n E m h i < (prtAt m i).o := by
  have e := exW_mul H.n0 H.n1 (H.cop i hi) (agr_dvd H hi)
  have hl := V_lt (E := E) H.n0 H.n1 (h i)
  have ho := (prt_z H.m1 hi).o1
  have : exW n E m h i * dn n (np n) < (prtAt m i).o * dn n (np n) := by rw [e]; exact Nat.mul_lt_mul_of_pos_left hl ho
  exact Nat.lt_of_mul_lt_mul_right this
theorem agree {n : Nat} {E : Nat → Nat} {m : Nat} {h : Nat → Nat} (H : Agr n E m h) {W : Nat → Nat} (hW : ∀ i, i < np m → W i = exW n E m h i) {a : Nat} (ga : Nat.gcd a n = 1) (gm : Nat.gcd a m = 1) : chv m W a = chv n E a := by
  obtain ⟨n0, n1, m0, m1, hcop, hgen, hinv⟩ := id H
  have hdp := dn_pos n1 (np n) (Nat.le_refl _)
  have hmp := dn_pos m1 (np m) (Nat.le_refl _)
  have hral : a % m < m := Nat.mod_lt _ m0
  have hrg : Nat.gcd (a % m) m = 1 := by rw [← Nat.gcd_rec, Nat.gcd_comm]; exact gm
  obtain ⟨c1, c2, c3⟩ := c_at m0 m1 hral hrg
  generalize cOf m (a % m) (np m) = c at *
  have hL : ∀ i, i < np m → dgt m c i = lgs m (a : Int) i := fun i hi => by
    rw [c3 i hi]
    unfold lgs
    rw [rs_cast, Nat.mod_mod_of_dvd _ (prt_z m1 hi).dvd]
  have hpc : ∀ i, i ≤ np m → Nat.gcd (pw h (dgt m c) i) n = 1 := fun i => by
    induction i with
    | zero => intro _; exact Nat.gcd_one_left n
    | succ i ih => intro hi; exact cop_mul n0 n1 (ih (by omega)) (cop_pow n0 n1 (hcop i (by omega)) _)
  have hpm : ∀ i, i ≤ np m → pw h (dgt m c) i % m = yA m c i := fun i => by
    induction i with
    | zero => intro _; rfl
    | succ i ih =>
      intro hi
      rw [yA, mulP_eq (yA_lt m0 i), ← ih (by omega), Nat.mod_mul_mod, pw, Nat.mul_mod, Nat.pow_mod, hgen i (by omega), ← Nat.pow_mod, ← Nat.mul_mod]
  have hpv : ∀ i, i ≤ np m → Vn n E (pw h (dgt m c) i) = sgm (fun i => Vn n E (h i)) (dgt m c) i % dn n (np n) := fun i => by
    induction i with
    | zero => intro _; rw [pw, V_one n0 n1]; exact (Nat.zero_mod _).symm
    | succ i ih =>
      intro hi
      rw [pw, V_mul n0 n1 (hpc i (by omega)) (cop_pow n0 n1 (hcop i (by omega)) _), ih (by omega), V_pow n0 n1 (hcop i (by omega)), sgm, ← Nat.add_mod]
  have hsm : ∀ i, i ≤ np m → sm m (lgs m (a : Int)) W i * dn n (np n) = sgm (fun i => Vn n E (h i)) (dgt m c) i * dn m i := fun i => by
    induction i with
    | zero => intro _; rw [sm, sgm, Nat.zero_mul, Nat.zero_mul]
    | succ i ih =>
      intro hi
      have e := exW_mul n0 n1 (hcop i (by omega)) (agr_dvd H (show i < np m by omega))
      rw [← hW i (by omega)] at e
      rw [sm, sgm, dn, ← hL i (by omega), Nat.add_mul, Nat.add_mul]
      have e1 : sm m (lgs m (a : Int)) W i * (prtAt m i).o * dn n (np n) = sgm (fun i => Vn n E (h i)) (dgt m c) i * dn m i * (prtAt m i).o := by rw [← ih (by omega)]; ac_rfl
      have e2 : W i * dgt m c i * dn m i * dn n (np n) = dgt m c i * Vn n E (h i) * (dn m i * (prtAt m i).o) := by
        calc W i * dgt m c i * dn m i * dn n (np n) = W i * dn n (np n) * (dgt m c i * dn m i) := by ac_rfl
          _ = (prtAt m i).o * Vn n E (h i) * (dgt m c i * dn m i) := by rw [e]
          _ = _ := by ac_rfl
      rw [e1, e2, Nat.mul_assoc]
  have hva : Vn n E a = sgm (fun i => Vn n E (h i)) (dgt m c) (np m) % dn n (np n) := by
    rw [← hpv _ (Nat.le_refl _)]
    exact hinv _ _ ga (hpc _ (Nat.le_refl _)) (by rw [hpm _ (Nat.le_refl _), c2])
  rw [chv_V n0 n1, hva, rt_mod]
  unfold chv
  refine rt_cong hmp hdp ?_
  rw [hsm _ (Nat.le_refl _)]
end HP

/- Dirichlet characters: roots of unity are compared; the fixed calls, walked. -/
namespace HP
open Go.Proofs.YtedfcemebdlgfaaGreatDoor
def lit2 (a b : Int) (i : Nat) : Int := if i = 0 then a else b
theorem valR_congr {n : Nat} {E E' : Nat → Nat} (h : ∀ i, i < np n → E i = E' i) (a : Int) : valR n E a = valR n E' a := by
  have : ∀ i, i ≤ np n → sm n (lgs n a) E i = sm n (lgs n a) E' i := fun i => by
    induction i with
    | zero => intro _; rfl
    | succ i ih => intro hi; rw [sm, sm, ih (by omega), h i (by omega)]
  unfold valR chv
  rw [this _ (Nat.le_refl _)]
theorem trv_congr {n : Nat} {E E' : Nat → Nat} (h : ∀ i, i < np n → E i = E' i) (f : Nat) : trv n E f = trv n E' f := by
  unfold trv okv
  simp only [valR_congr h]
theorem cnd_congr {n : Nat} {E E' : Nat → Nat} (h : ∀ i, i < np n → E i = E' i) : cnd n E = cnd n E' := by
  unfold cnd cndI
  simp only [trv_congr h]
theorem oc_congr {n : Nat} {E E' : Nat → Nat} (h : ∀ i, i < np n → E i = E' i) : oc n E (np n) = oc n E' (np n) := by
  have : ∀ i, i ≤ np n → oc n E i = oc n E' i := fun i => by
    induction i with
    | zero => intro _; rfl
    | succ i ih => intro hi; rw [oc, oc, ih (by omega), h i (by omega)]
  exact this _ (Nat.le_refl _)
theorem chk_mk {n : Nat} {X : Nat → Int} {E : Nat → Nat} (n0 : 1 ≤ n) (n1 : n ≤ 60) (h : ∀ i, i < np n → X i = E i ∧ E i < (prtAt n i).o) : chkE n X (np n) = 0 := by
  unfold chkE
  rw [if_neg (by omega), Int.toNat_natCast, if_neg (fun h => h rfl), if_pos (all_range.2 fun i hi => ?_)]
  obtain ⟨h1, h2⟩ := h i hi
  unfold expOk
  rw [h1, decide_eq_true (by omega), decide_eq_true (by omega)]
  rfl
structure QuOk (d : Int) : Prop where
  chk : chkE d.natAbs (quW d) (np d.natAbs) = 0
  cnd : cnd d.natAbs (fun i => (quW d i).toNat) = d.natAbs
  ord : oc d.natAbs (fun i => (quW d i).toNat) (np d.natAbs) = if d = 1 then 1 else 2
  even : ((valR d.natAbs (fun i => (quW d i).toNat) (-1)).2.1 = 0) ↔ 0 < d
theorem qu_ok {d : Int} (h : quE d = 0) : QuOk d := by
  unfold quE at h
  split at h
  · cases h
  · next hr =>
    split at h
    · cases h
    · next h2 =>
      have hc := allB_at qu_chk (show (d + 60).toNat < 121 by omega)
      have e : (((d + 60).toNat : Nat) : Int) - 60 = d := by omega
      rw [e, ← fundC_eq (by omega) (by omega), decide_eq_false (by omega), decide_eq_false h2, Bool.false_or, Bool.false_or] at hc
      unfold quChk at hc
      simp only [Bool.and_eq_true, beq_iff_eq] at hc
      obtain ⟨⟨⟨a1, a2⟩, a3⟩, a4⟩ := hc
      have hq : ∀ i, i < np d.natAbs → quW d i = (qWC d i : Int) := fun i hi => quW_C (by omega) (by omega) (by omega) hi
      have hE : ∀ i, i < np d.natAbs → (quW d i).toNat = qWC d i := fun i hi => by rw [hq i hi, Int.toNat_natCast]
      refine ⟨chk_mk (by omega) (by omega) fun i hi => ⟨hq i hi, ?_⟩, ?_, ?_, ?_⟩
      · have := List.all_eq_true.1 a1 i (List.mem_range.2 hi)
        rwa [Nat.blt_eq] at this
      · rw [cnd_congr hE]; exact Nat.eq_of_beq_eq_true a2
      · rw [oc_congr hE, Nat.eq_of_beq_eq_true a3]
        by_cases h1 : d = 1
        · rw [if_pos h1, decide_eq_true h1]; rfl
        · rw [if_neg h1, decide_eq_false h1]; rfl
      · rw [valR_congr hE]
        constructor
        · intro hz
          rw [hz] at a4
          exact of_decide_eq_true a4.symm
        · intro hp
          rw [decide_eq_true hp] at a4
          exact Nat.eq_of_beq_eq_true a4
end HP
namespace Go.Proofs.YtedfcemebdlgfaaGreatDoor
open Go Go.RowKit Go.VG HP
def litL (a b : Int) : List Leaf := [ix a, ix b]
theorem lit2_le (a b : Int) : LeafLe (.sl 1 Nat (fun i j => getL [ix a, ix b] (i * 1 + j)) id 2) (xsL (lit2 a b) 2) := .sl fun i j hi hj => by
  obtain rfl : j = 0 := by omega
  have : i = 0 ∨ i = 1 := by omega
  rcases this with rfl | rfl
  · exact .refl _
  · exact .refl _
theorem run_eqru (a : Bool) (b c : Int) (a' : Bool) (b' c' : Int) (w : World) : (Op.equal 45 (.agg #[.bool a, .int .i64 b, .int .i64 c]) (.agg #[.bool a', .int .i64 b', .int .i64 c'])).run Tryz.prog w = .ok (decide (a = a' ∧ b = b' ∧ c = c')) w := by
  have hs : Tryz.prog.stoodInHeld 45 = false := by kernel_rfl
  have h4 : ∀ x y w, (Op.equalIn 9999 4 (.bool x) (.bool y)).run Tryz.prog w = .ok (x == y) w := fun x y w => by
    unfold Op.equalIn
    simp [run_underlying Tryz.underlying4]
  have h3 : ∀ x y w, (Op.equalIn 9999 3 (.int .i64 x) (.int .i64 y)).run Tryz.prog w = .ok (x == y) w := fun x y w => by
    unfold Op.equalIn
    simp [run_underlying Tryz.underlying3]
  have p0 : ∀ (a : Bool) (b c : Int) w, (part 4 #[.bool a, .int .i64 b, .int .i64 c] 0).run Tryz.prog w = .ok (.bool a) w := fun a b c w => run_part (tysOk_get (l := tysX) (t := 4) tysX_ok rfl) [.bool a, .int .i64 b, .int .i64 c] 0 w (Nat.le_of_ble_eq_true rfl) rfl
  have p1 : ∀ (a : Bool) (b c : Int) w, (part 3 #[.bool a, .int .i64 b, .int .i64 c] 1).run Tryz.prog w = .ok (.int .i64 b) w := fun a b c w => run_part (tysOk_get (l := tysX) (t := 3) tysX_ok rfl) [.bool a, .int .i64 b, .int .i64 c] 1 w (Nat.le_of_ble_eq_true rfl) rfl
  have p2 : ∀ (a : Bool) (b c : Int) w, (part 3 #[.bool a, .int .i64 b, .int .i64 c] 2).run Tryz.prog w = .ok (.int .i64 c) w := fun a b c w => run_part (tysOk_get (l := tysX) (t := 3) tysX_ok rfl) [.bool a, .int .i64 b, .int .i64 c] 2 w (Nat.le_of_ble_eq_true rfl) rfl
  unfold Op.equal Op.maxDepth Op.equalIn
  simp [run_underlying Tryz.underlying45, hs, h3, h4, p0, p1, p2]
  by_cases e1 : a = a' <;> by_cases e2 : b = b' <;> by_cases e3 : c = c' <;> simp [e1, e2, e3]
theorem ru_eqob {K : Bool → Prop} (p q : Bool × Nat × Nat) (h : K (decide (p = q))) : EqOb CX .eql 45 [.x (.bool p.1), ix p.2.1, ix p.2.2] [.x (.bool q.1), ix q.2.1, ix q.2.2] K := by
  refine ⟨⟨decide (p = q), h, fun x y ρ cs cs' w h1 h2 => ?_⟩⟩
  match cs, h1 with
  | [a, b, c], ⟨⟨_, e1⟩, ⟨_, e2⟩, ⟨_, e3⟩, _⟩ =>
  match cs', h2 with
  | [a', b', c'], ⟨⟨_, f1⟩, ⟨_, f2⟩, ⟨_, f3⟩, _⟩ =>
  have e1 : a = .bool p.1 := e1
  have e2 : b = .int .i64 p.2.1 := e2
  have e3 : c = .int .i64 p.2.2 := e3
  have f1 : a' = .bool q.1 := f1
  have f2 : b' = .int .i64 q.2.1 := f2
  have f3 : c' = .int .i64 q.2.2 := f3
  subst e1 e2 e3 f1 f2 f3
  have hg : Tryz.prog.eqGuardType Tryz.prog.depth 45 = false := by kernel_rfl
  have hr := run_eqru p.1 p.2.1 p.2.2 q.1 q.2.1 q.2.2 w
  have e : decide (p.1 = q.1 ∧ (p.2.1 : Int) = q.2.1 ∧ (p.2.2 : Int) = q.2.2) = decide (p = q) := by
    obtain ⟨a, b, c⟩ := p
    obtain ⟨a', b', c'⟩ := q
    rw [decide_eq_decide]
    simp only [Prod.mk.injEq, Int.natCast_inj]
  rw [e] at hr
  show (do eqGuard .eql _ x y _ _; binOp .eql _ _ _ : Sem Value).run Tryz.prog w = _
  simp [eqGuard, hg, binOp, hr]
end Go.Proofs.YtedfcemebdlgfaaGreatDoor

