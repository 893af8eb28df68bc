/- Own texts joined: DiA, DiB. -/
import Derived.Test.YtedfcemebdlgfaaGreatDoorPkNumW
/- Dirichlet characters, plain: the parts of a modulus up to 60, orders, generators. -/
namespace HP
/-- powers modulo q, step by step -/
def powM (g q : Nat) : Nat → Nat
  | 0 => 1 % q
  | k + 1 => powM g q k * g % q
theorem powM_eq (g q : Nat) : ∀ k, powM g q k = g ^ k % q
  | 0 => rfl
  | k + 1 => by rw [powM, powM_eq g q k, Nat.pow_succ, Nat.mod_mul_mod]
theorem powM_one {g q : Nat} : powM g q 1 = g % q := by rw [powM_eq, Nat.pow_one]
/-- the order of a unit, looked for from k on; x is the power -/
def ordA (g q : Nat) : Nat → Nat → Nat → Option Nat
  | 0, _, _ => none
  | f + 1, k, x => if x = 1 % q then some k else ordA g q f (k + 1) (x * g % q)
def ordO (g q : Nat) : Option Nat := ordA g q q 1 (g % q)
theorem ordA_spec {g q d : Nat} : ∀ f k x, ordA g q f k x = some d → x = powM g q k → k ≤ d ∧ powM g q d = 1 % q ∧ ∀ e, k ≤ e → e < d → powM g q e ≠ 1 % q
  | 0, _, _, h, _ => by simp [ordA] at h
  | f + 1, k, x, h, hx => by
    rw [ordA] at h
    split at h
    · next h1 =>
      cases h
      exact ⟨Nat.le_refl _, by rw [← hx]; exact h1, fun e h2 h3 => by omega⟩
    · next h1 =>
      obtain ⟨a, b, c⟩ := ordA_spec f (k + 1) (x * g % q) h (by rw [powM, hx])
      refine ⟨by omega, b, fun e h2 h3 => ?_⟩
      by_cases he : e = k
      · subst he; rw [← hx]; exact h1
      · exact c e (by omega) h3
theorem ordO_spec {g q d : Nat} (h : ordO g q = some d) : 1 ≤ d ∧ powM g q d = 1 % q ∧ ∀ e, 1 ≤ e → e < d → powM g q e ≠ 1 % q :=
  ordA_spec _ _ _ h powM_one.symm
theorem cong_nat {a b m : Nat} : Cong (m : Int) (a : Int) (b : Int) ↔ a % m = b % m := by
  unfold Cong
  rw [Int.dvd_iff_emod_eq_zero, ← Int.emod_eq_emod_iff_emod_sub_eq_zero]
  omega
theorem ordO_isOrd {g q d : Nat} (h : ordO g q = some d) : IsOrd (g : Int) (q : Int) d := by
  obtain ⟨h1, h2, h3⟩ := ordO_spec h
  have e : ∀ k : Nat, Cong (q : Int) ((g : Int) ^ k) 1 ↔ powM g q k = 1 % q := fun k => by
    have := @cong_nat (g ^ k) 1 q
    rw [powM_eq, ← this]
    simp
  exact isOrd_of_least h1 ((e d).2 h2) fun k k0 k1 hc => h3 k k0 k1 ((e k).1 hc)
/-- the least root of order o modulo q -/
def rootT (q o : Nat) : Nat := ((List.range q).find? fun g => Nat.ble 1 g && Nat.gcd g q == 1 && ordO g q == some o).getD 0
/-- a part: generator, order, power of a prime -/
structure Prt where
  r : Nat
  o : Nat
  q : Nat
def partOf (f : Nat × Nat) : List Prt :=
  if 2 < f.1 then [⟨rootT (f.1 ^ f.2) (f.1 ^ f.2 / f.1 * (f.1 - 1)), f.1 ^ f.2 / f.1 * (f.1 - 1), f.1 ^ f.2⟩]
  else if f.1 ^ f.2 = 4 then [⟨3, 2, 4⟩]
  else if 4 < f.1 ^ f.2 then [⟨f.1 ^ f.2 - 1, 2, f.1 ^ f.2⟩, ⟨5, f.1 ^ f.2 / 4, f.1 ^ f.2⟩]
  else []
def prts (n : Nat) : List Prt := (facC n).flatMap partOf
/-- below r no g has the order o; r has it -/
def rootOk (q o : Nat) : Bool :=
  Nat.ble 1 (rootT q o) && Nat.gcd (rootT q o) q == 1 && ordO (rootT q o) q == some o && (phi' q % o == 0) &&
    (List.range (rootT q o)).all fun g => Nat.beq g 0 || Nat.gcd g q != 1 || match ordO g q with
      | some d => d != o && phi' q % d == 0
      | none => false
where phi' (q : Nat) : Nat := (prodC phiF q).toNat
theorem root_chk : allB 61 (fun n => (facC n).all fun f => Nat.ble f.1 2 || rootOk (f.1 ^ f.2) (f.1 ^ f.2 / f.1 * (f.1 - 1))) = true := by decide +kernel
/-- what Order answers, below the root and at it -/
theorem root_at {n p e : Nat} (hn0 : 1 ≤ n) (hn : n ≤ 60) (h : (p, e) ∈ facC n) (hp : 2 < p) :
    1 ≤ rootT (p ^ e) (p ^ e / p * (p - 1)) ∧ Nat.gcd (rootT (p ^ e) (p ^ e / p * (p - 1))) (p ^ e) = 1 ∧ ordO (rootT (p ^ e) (p ^ e / p * (p - 1))) (p ^ e) = some (p ^ e / p * (p - 1)) ∧ p ^ e / p * (p - 1) ∣ (phi (p ^ e)).toNat ∧ p ^ e ≤ 60 ∧ 1 ≤ p ^ e ∧
    ∀ g, 1 ≤ g → g < rootT (p ^ e) (p ^ e / p * (p - 1)) → Nat.gcd g (p ^ e) = 1 → ∃ d, ordO g (p ^ e) = some d ∧ d ≠ p ^ e / p * (p - 1) ∧ d ∣ (phi (p ^ e)).toNat := by
  have hc := allB_at root_chk (show n < 61 by omega)
  have hc := List.all_eq_true.1 hc _ h
  have hf : (p, e) ∈ facs n := by rw [facs_C hn0 (by omega)]; exact h
  obtain ⟨b1, b2, b3, b4, b5, b6, _⟩ := facs_bounds (by omega) hf
  have hb : Nat.ble p 2 = false := by
    rw [Bool.eq_false_iff]
    intro x
    have := Nat.le_of_ble_eq_true x
    omega
  simp only [hb, Bool.false_or] at hc
  have hq1 : 1 ≤ p ^ e := Nat.pow_pos (by omega)
  unfold rootOk at hc
  simp only [Bool.and_eq_true, beq_iff_eq] at hc
  obtain ⟨⟨⟨⟨c1, c2⟩, c3⟩, c4⟩, c5⟩ := hc
  have hph : rootOk.phi' (p ^ e) = (phi (p ^ e)).toNat := by unfold rootOk.phi'; rw [phi_C hq1 (by omega)]
  rw [hph] at c4 c5
  refine ⟨Nat.le_of_ble_eq_true c1, c2, c3, Nat.dvd_of_mod_eq_zero c4, by omega, hq1, fun g g1 g2 g3 => ?_⟩
  have := List.all_eq_true.1 c5 g (List.mem_range.2 g2)
  have g0 : Nat.beq g 0 = false := by
    rw [Bool.eq_false_iff]
    intro x
    have := Nat.eq_of_beq_eq_true x
    omega
  simp only [g0, g3, Bool.false_or, bne_self_eq_false] at this
  split at this
  · next d hd =>
    simp only [Bool.and_eq_true, bne_iff_ne, beq_iff_eq] at this
    exact ⟨d, hd, this.1, Nat.dvd_of_mod_eq_zero this.2⟩
  · cases this
end HP

/- Dirichlet characters, plain: fractions of a turn, logarithms, values. -/
namespace HP
/-- N/D of a turn in lowest terms -/
def rt (N D : Nat) : Nat × Nat := (N % D / Nat.gcd (N % D) D, D / Nat.gcd (N % D) D)
theorem low_eq {a b c d : Nat} (hb : 0 < b) (hd : 0 < d) (h1 : Nat.gcd a b = 1) (h2 : Nat.gcd c d = 1) (h : a * d = c * b) : a = c ∧ b = d := by
  have k1 : b ∣ d := Nat.Coprime.dvd_of_dvd_mul_left (show Nat.Coprime b a from (Nat.gcd_comm b a).trans h1) (by rw [h]; exact Nat.dvd_mul_left _ _)
  have k2 : d ∣ b := Nat.Coprime.dvd_of_dvd_mul_left (show Nat.Coprime d c from (Nat.gcd_comm d c).trans h2) (by rw [← h]; exact Nat.dvd_mul_left _ _)
  have e := Nat.dvd_antisymm k1 k2
  subst e
  exact ⟨Nat.eq_of_mul_eq_mul_right hb h, rfl⟩
theorem rt_facts {N D : Nat} (hD : 0 < D) : (rt N D).1 * D = N % D * (rt N D).2 ∧ 0 < (rt N D).2 ∧ Nat.gcd (rt N D).1 (rt N D).2 = 1 ∧ (rt N D).1 < (rt N D).2 ∧ (rt N D).2 ∣ D := by
  have hg : 0 < Nat.gcd (N % D) D := Nat.gcd_pos_of_pos_right _ hD
  obtain ⟨x, hx⟩ := Nat.gcd_dvd_left (N % D) D
  obtain ⟨y, hy⟩ := Nat.gcd_dvd_right (N % D) D
  have e1 : (rt N D).1 = x := by
    show N % D / Nat.gcd (N % D) D = x
    rw [Nat.div_eq_of_eq_mul_right hg hx]
  have e2 : (rt N D).2 = y := by
    show D / Nat.gcd (N % D) D = y
    rw [Nat.div_eq_of_eq_mul_right hg hy]
  rw [e1, e2]
  have hy0 : 0 < y := by
    rcases Nat.eq_zero_or_pos y with h | h
    · rw [h, Nat.mul_zero] at hy; omega
    · exact h
  generalize hG : Nat.gcd (N % D) D = g at *
  refine ⟨?_, hy0, ?_, ?_, ⟨g, by rw [Nat.mul_comm]; exact hy⟩⟩
  · calc x * D = x * (g * y) := by rw [← hy]
      _ = g * x * y := by rw [Nat.mul_left_comm, Nat.mul_assoc]
      _ = N % D * y := by rw [← hx]
  · have : Nat.gcd (g * x) (g * y) = g := by rw [← hx, ← hy]; exact hG
    rw [Nat.gcd_mul_left] at this
    exact Nat.eq_of_mul_eq_mul_left hg (by omega)
  · have h := Nat.mod_lt N hD
    have : g * x < g * y := by rw [← hx, ← hy]; exact h
    exact Nat.lt_of_mul_lt_mul_left this
/-- the same fraction modulo 1 -/
theorem rt_eq {N D N' D' : Nat} (hD : 0 < D) (hD' : 0 < D') (h : N % D * D' = N' % D' * D) : rt N D = rt N' D' := by
  obtain ⟨a1, a2, a3, _, _⟩ := rt_facts (N := N) hD
  obtain ⟨b1, b2, b3, _, _⟩ := rt_facts (N := N') hD'
  have e : (rt N D).1 * (rt N' D').2 = (rt N' D').1 * (rt N D).2 := by
    apply Nat.eq_of_mul_eq_mul_right (Nat.mul_pos hD hD')
    calc (rt N D).1 * (rt N' D').2 * (D * D') = (rt N D).1 * D * ((rt N' D').2 * D') := by simp only [Nat.mul_assoc, Nat.mul_left_comm]
      _ = N % D * (rt N D).2 * ((rt N' D').2 * D') := by rw [a1]
      _ = N % D * D' * ((rt N D).2 * (rt N' D').2) := by simp only [Nat.mul_assoc, Nat.mul_left_comm]; ac_rfl
      _ = N' % D' * D * ((rt N D).2 * (rt N' D').2) := by rw [h]
      _ = N' % D' * (rt N' D').2 * ((rt N D).2 * D) := by ac_rfl
      _ = (rt N' D').1 * D' * ((rt N D).2 * D) := by rw [b1]
      _ = (rt N' D').1 * (rt N D).2 * (D * D') := by ac_rfl
  have := low_eq a2 b2 a3 b3 e
  exact Prod.ext this.1 this.2
theorem mod_cross {N D N' D' : Nat} (_hD : 0 < D) (_hD' : 0 < D') (h : (N * D') % (D * D') = (N' * D) % (D * D')) : N % D * D' = N' % D' * D := by
  rw [Nat.mul_mod_mul_right] at h
  rw [show D * D' = D' * D from Nat.mul_comm _ _, Nat.mul_mod_mul_right] at h
  exact h
theorem rt_cong {N D N' D' : Nat} (hD : 0 < D) (hD' : 0 < D') (h : (N * D') % (D * D') = (N' * D) % (D * D')) : rt N D = rt N' D' := rt_eq hD hD' (mod_cross hD hD' h)
theorem rt_mul {N D k : Nat} (hD : 0 < D) (hk : 0 < k) : rt (N * k) (D * k) = rt N D := by
  refine rt_eq (Nat.mul_pos hD hk) hD ?_
  rw [Nat.mul_mod_mul_right]
  ac_rfl
theorem rt_mod (N D : Nat) : rt (N % D) D = rt N D := by unfold rt; rw [Nat.mod_mod]
theorem rt_add (N D k : Nat) : rt (N + D * k) D = rt N D := by unfold rt; rw [Nat.add_mul_mod_self_left]
/-- a sum with what is in lowest terms already -/
theorem rt_step {S D t o : Nat} (hD : 0 < D) (ho : 0 < o) : rt ((rt S D).1 * o + t * (rt S D).2) ((rt S D).2 * o) = rt (S * o + t * D) (D * o) := by
  obtain ⟨a1, a2, _, _, a5⟩ := rt_facts (N := S) hD
  obtain ⟨k, hk⟩ := a5
  have hk0 : 0 < k := by
    rcases Nat.eq_zero_or_pos k with h | h
    · rw [h, Nat.mul_zero] at hk; omega
    · exact h
  generalize rt S D = P at *
  obtain ⟨u, d⟩ := P
  simp only at *
  have e1 : S % D = u * k := by
    apply Nat.eq_of_mul_eq_mul_right a2
    rw [← a1, hk]; ac_rfl
  rw [← rt_mul (N := u * o + t * d) (D := d * o) (Nat.mul_pos a2 ho) hk0, show d * o * k = D * o by rw [hk]; ac_rfl, show (u * o + t * d) * k = S % D * o + t * D by rw [e1, hk, Nat.add_mul]; ac_rfl]
  have e2 : S * o + t * D = S % D * o + t * D + D * o * (S / D) := by
    have := Nat.div_add_mod S D
    calc S * o + t * D = (D * (S / D) + S % D) * o + t * D := by rw [this]
      _ = _ := by rw [Nat.add_mul]; ac_rfl
  rw [e2, rt_add]
theorem rt_times {S D t o : Nat} (hD : 0 < D) (ho : 0 < o) : rt ((rt S D).1 * (rt t o).2 + (rt t o).1 * (rt S D).2) ((rt S D).2 * (rt t o).2) = rt (S * o + t * D) (D * o) := by
  have h2 := (rt_facts (N := t) ho).2.1
  rw [rt_step hD h2]
  have e := rt_step (S := t) (D := o) (t := S) (o := D) ho hD
  rw [show S * (rt t o).2 + (rt t o).1 * D = (rt t o).1 * D + S * (rt t o).2 from Nat.add_comm _ _, show D * (rt t o).2 = (rt t o).2 * D from Nat.mul_comm _ _, e, Nat.add_comm (t * D), Nat.mul_comm o D]
theorem rt_zero {S D : Nat} (hD : 0 < D) : (rt S D).1 = 0 ↔ S % D = 0 := by
  obtain ⟨a1, a2, _, _, _⟩ := rt_facts (N := S) hD
  constructor
  · intro h
    rw [h, Nat.zero_mul] at a1
    rcases Nat.mul_eq_zero.1 a1.symm with h | h
    · exact h
    · omega
  · intro h
    rw [h, Nat.zero_mul] at a1
    rcases Nat.mul_eq_zero.1 a1 with h | h
    · exact h
    · omega
/-- the discrete logarithm, looked for from k on -/
def dlogA (r q a : Nat) : Nat → Nat → Nat → Option Nat
  | 0, _, _ => none
  | f + 1, k, x => if x = a then some k else dlogA r q a f (k + 1) (x * r % q)
def dlogO (r q a : Nat) : Option Nat := dlogA r q a q 0 (1 % q)
theorem dlogA_spec {r q a d : Nat} : ∀ f k x, dlogA r q a f k x = some d → x = powM r q k → k ≤ d ∧ powM r q d = a ∧ ∀ e, k ≤ e → e < d → powM r q e ≠ a
  | 0, _, _, h, _ => by simp [dlogA] at h
  | f + 1, k, x, h, hx => by
    rw [dlogA] at h
    split at h
    · next h1 =>
      cases h
      exact ⟨Nat.le_refl _, by rw [← hx]; exact h1, fun e h2 h3 => by omega⟩
    · next h1 =>
      obtain ⟨a, b, c⟩ := dlogA_spec f (k + 1) (x * r % q) h (by rw [powM, hx])
      refine ⟨by omega, b, fun e h2 h3 => ?_⟩
      by_cases he : e = k
      · subst he; rw [← hx]; exact h1
      · exact c e (by omega) h3
theorem dlogO_spec {r q a d : Nat} (h : dlogO r q a = some d) : powM r q d = a ∧ ∀ e, e < d → powM r q e ≠ a :=
  have := dlogA_spec _ _ _ h rfl
  ⟨this.2.1, fun e he => this.2.2 e (Nat.zero_le _) he⟩
/-- the exponent of a part's generator in the residue a -/
def isSg (P : Prt) : Bool := P.q % 2 == 0 && P.r == P.q - 1
def flp (P : Prt) (a : Nat) : Nat := if P.q % 2 = 0 ∧ a % 4 = 3 then P.q - a else a
def lg (P : Prt) (a : Nat) : Nat := bif isSg P then a % 4 / 2 else (dlogO P.r P.q (flp P a)).getD 0
/-- a number modulo q -/
def rs (a : Int) (q : Nat) : Nat := (a % q).toNat
def prtAt (n i : Nat) : Prt := (prts n).getD i ⟨1, 1, 1⟩
/-- the sum over the parts below i, in units of 1/dn -/
def dn (n : Nat) : Nat → Nat
  | 0 => 1
  | i + 1 => dn n i * (prtAt n i).o
def sm (n : Nat) (L : Nat → Nat) (E : Nat → Nat) : Nat → Nat
  | 0 => 0
  | i + 1 => sm n L E i * (prtAt n i).o + E i * L i * dn n i
/-- the logarithms of a number -/
def lgs (n : Nat) (a : Int) (i : Nat) : Nat := lg (prtAt n i) (rs a (prtAt n i).q)
def np (n : Nat) : Nat := (prts n).length
/-- the value of a character at a unit -/
def chv (n : Nat) (E : Nat → Nat) (a : Int) : Nat × Nat := rt (sm n (lgs n a) E (np n)) (dn n (np n))
def bothT (g : Int) (q n : Nat) : Option Nat := (List.range n).find? fun (x : Nat) => ((x : Int) - g) % q == 0 && ((x : Int) - 1) % (n / q : Nat) == 0
def genT (n : Nat) (P : Prt) : Nat := (bothT P.r P.q n).getD 0
def gens (n : Nat) : List Nat := (prts n).map (genT n)
def ords (n : Nat) : List Nat := (prts n).map (·.o)
/-- the facts of each part that are reckoned -/
def partChk (n : Nat) (P : Prt) : Bool :=
  Nat.ble 3 P.q && Nat.ble P.q 60 && Nat.ble 1 P.o && Nat.ble P.o 60 && Nat.ble P.r 60 && Nat.ble 1 P.r && n % P.q == 0 && (bothT P.r P.q n).isSome &&
    decide (crtOut (crt (0, 1) [((P.r : Int), (P.q : Int)), (1, ((n / P.q : Nat) : Int))]) = ((genT n P : Int), (n : Int), 0)) && (!(P.q % 2 == 0 && P.r == P.q - 1) || bothT (-1) P.q n == bothT P.r P.q n) &&
    allB P.q (fun a => Nat.gcd a P.q != 1 || ((isSg P || (dlogO P.r P.q (flp P a)).isSome) && Nat.blt (lg P a) P.o))
theorem part_chk : allB 61 (fun n => (prts n).all (partChk n)) = true := by decide +kernel
theorem prtAt_mem {n i : Nat} (h : i < np n) : prtAt n i ∈ prts n := by
  unfold prtAt
  rw [List.getD_eq_getElem?_getD, List.getElem?_eq_getElem h]
  exact List.getElem_mem h
structure PartOk (n : Nat) (P : Prt) : Prop where
  q3 : 3 ≤ P.q
  q60 : P.q ≤ 60
  o1 : 1 ≤ P.o
  o60 : P.o ≤ 60
  r60 : P.r ≤ 60
  r1 : 1 ≤ P.r
  dvd : P.q ∣ n
  both : bothT P.r P.q n = some (genT n P)
  crt : crtOut (crt (0, 1) [((P.r : Int), (P.q : Int)), (1, ((n / P.q : Nat) : Int))]) = ((genT n P : Int), (n : Int), 0)
  neg : isSg P = true → bothT (-1) P.q n = bothT P.r P.q n
  log : ∀ a, a < P.q → Nat.gcd a P.q = 1 → (isSg P = false → dlogO P.r P.q (flp P a) = some (lg P a)) ∧ lg P a < P.o
theorem part_ok {n : Nat} (hn : n ≤ 60) {P : Prt} (hP : P ∈ prts n) : PartOk n P := by
  have h := List.all_eq_true.1 (allB_at part_chk (show n < 61 by omega)) P hP
  unfold partChk at h
  simp only [Bool.and_eq_true, beq_iff_eq, decide_eq_true_eq] at h
  obtain ⟨⟨⟨⟨⟨⟨⟨⟨⟨⟨h1, h2⟩, h3⟩, h4⟩, h5⟩, h6⟩, h7⟩, h8⟩, h9⟩, h10⟩, h11⟩ := h
  refine ⟨Nat.le_of_ble_eq_true h1, Nat.le_of_ble_eq_true h2, Nat.le_of_ble_eq_true h3, Nat.le_of_ble_eq_true h4, Nat.le_of_ble_eq_true h5, Nat.le_of_ble_eq_true h6, Nat.dvd_of_mod_eq_zero h7, ?_, h9, fun hs => ?_, fun a ha hg => ?_⟩
  · obtain ⟨x, hx⟩ := Option.isSome_iff_exists.1 h8
    unfold genT
    rw [hx]; rfl
  · unfold isSg at hs
    rw [hs] at h10
    simpa using h10
  · have := allB_at h11 ha
    rw [hg] at this
    simp only [bne_self_eq_false, Bool.false_or, Bool.and_eq_true] at this
    refine ⟨fun hs => ?_, Nat.le_of_ble_eq_true this.2⟩
    rw [hs, Bool.false_or] at this
    obtain ⟨d, hd⟩ := Option.isSome_iff_exists.1 this.1
    unfold lg
    rw [hs, hd]; rfl
theorem dn_pos {n : Nat} (hn : n ≤ 60) : ∀ i, i ≤ np n → 0 < dn n i
  | 0, _ => Nat.one_pos
  | i + 1, h => Nat.mul_pos (dn_pos hn i (by omega)) (part_ok hn (prtAt_mem (show i < np n by omega))).o1
end HP

