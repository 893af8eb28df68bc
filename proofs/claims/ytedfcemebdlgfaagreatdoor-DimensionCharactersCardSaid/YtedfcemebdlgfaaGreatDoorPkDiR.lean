/- Own texts joined: DiR, DiS, DiT, DiU. -/
import Derived.Test.YtedfcemebdlgfaaGreatDoorPkDiA
import Derived.Test.YtedfcemebdlgfaaGreatDoorPkVgU
import Derived.Test.YtedfcemebdlgfaaGreatDoorPkDiE
import Derived.Test.YtedfcemebdlgfaaGreatDoorDiD
/- Dirichlet characters, plain: what the reference reckons, held against the parts. -/
namespace HP
open Go.Proofs.YtedfcemebdlgfaaGreatDoor
/-- the number of units modulo q up to m -/
def cntU (q : Nat) : Nat → Nat
  | 0 => 0
  | m + 1 => cntU q m + bif Nat.gcd (m + 1) q == 1 then 1 else 0
/-- the exponent of p in n, by the factorization -/
def qe (n p : Nat) : Nat := match (facC n).find? fun f => f.1 == p with
  | some f => f.2
  | none => 0
def genR (n p : Nat) : List (Nat × Nat) := bif pq p p && !Nat.beq (qe n p) 0 then (partOf (p, qe n p)).map fun P => (genT n P, P.o) else []
theorem cnt_chk : allB 61 (fun n => Nat.beq n 0 || (cntU n n == dn n (np n) && (prts n).all fun P => isSg P || P.q % 2 == 0 || cntU P.q P.q == P.o)) = true := by decide +kernel
theorem ref_chk : allB 61 (fun n => Nat.beq n 0 || allB 61 fun p => Nat.blt p 2 || Nat.blt n p ||
    (bif pq p p then (List.range (qe n p)).all (fun j => n % (p ^ j * p) == 0) && n % (p ^ qe n p * p) != 0 && (Nat.beq (qe n p) 0 || (facC n).contains (p, qe n p)) else true)) = true := by decide +kernel
theorem gen_chk : allB 61 (fun n => Nat.beq n 0 || decide ((((List.range (n + 1)).drop 2).flatMap (genR n)) = (prts n).map fun P => (genT n P, P.o))) = true := by decide +kernel
/-- digits of the counter over all exponents -/
def dgt (n c i : Nat) : Nat := c / dn n i % (prtAt n i).o
def mulP (n g y : Nat) : Nat → Nat
  | 0 => y
  | k + 1 => mulP n g y k * g % n
def yA (n c : Nat) : Nat → Nat
  | 0 => 1 % n
  | i + 1 => mulP n (genT n (prtAt n i)) (yA n c i) (dgt n c i)
def cOf (n a : Nat) : Nat → Nat
  | 0 => 0
  | i + 1 => cOf n a i + lg (prtAt n i) (a % (prtAt n i).q) * dn n i
theorem y_chk : allB 61 (fun n => Nat.beq n 0 || allB (dn n (np n)) fun c => (List.range (np n)).all fun i => lg (prtAt n i) (yA n c (np n) % (prtAt n i).q) == dgt n c i) = true := by decide +kernel
theorem c_chk : allB 61 (fun n => Nat.beq n 0 || allB n fun a => Nat.gcd a n != 1 || (Nat.blt (cOf n a (np n)) (dn n (np n)) && yA n (cOf n a (np n)) (np n) == a && (List.range (np n)).all fun i => dgt n (cOf n a (np n)) i == lg (prtAt n i) (a % (prtAt n i).q))) = true := by decide +kernel
end HP

/- Dirichlet characters: the small functions of the reference, walked. -/
namespace HP
/-- what both looks for is not met before -/
theorem both_spec {g : Int} {q n x : Nat} (h : bothT g q n = some x) : x < n ∧ ((x : Int) - g) % q = 0 ∧ ((x : Int) - 1) % (n / q : Nat) = 0 ∧ ∀ y, y < x → ¬ (((y : Int) - g) % q = 0 ∧ ((y : Int) - 1) % (n / q : Nat) = 0) := by
  have h1 := List.find?_some h
  have h2 := List.mem_range.1 (List.mem_of_find?_eq_some h)
  simp only [Bool.and_eq_true, beq_iff_eq] at h1
  refine ⟨h2, h1.1, h1.2, fun y hy => ?_⟩
  obtain ⟨la, lb, hab, hno⟩ := (List.find?_eq_some_iff_append.1 h).2
  have hlen : la.length = x := by
    have h3 : (List.range n)[la.length]? = some x := by rw [hab, List.getElem?_append_right (Nat.le_refl _), Nat.sub_self]; rfl
    obtain ⟨h5, h6⟩ := List.getElem?_eq_some_iff.1 h3
    rw [List.getElem_range] at h6
    exact h6
  have hmem : y ∈ la := by
    have h3 : (List.range n)[y]? = la[y]? := by rw [hab, List.getElem?_append_left (by omega)]
    rw [List.getElem?_range (by omega)] at h3
    exact List.mem_of_getElem? h3.symm
  have := hno y hmem
  rintro ⟨a1, a2⟩
  rw [a1, a2] at this
  cases this
end HP
namespace Go.Proofs.YtedfcemebdlgfaaGreatDoor
open Go Go.RowKit Go.VG HP
theorem rmod28_sp (n : Int) : Sp CX 37 [int .i64 n] (int .i64 (if n < 1 ∨ 60 < n then 2 else 0)) := by
  by_cases h : n < 1 ∨ 60 < n
  · rw [if_pos h]
    by_cases h1 : n < 1
    · refine fn_sp (C := CX) [] [] tysX_ok mixed Tryz.func37 rfl (by kernel_rfl) Tryz.ntmps37 rfl rfl ?_
      repeat' ((conv => whnf); first | refine Ob.g ?_ | refine Cases.y ?_ | refine Cases.n ?_ | refine Idx.g rfl ?_ | refine Idx.z rfl ?_ | refine DrawOb.start ?_ | refine TryF.f ?_ | refine TryF.next rfl ?_ | refine TryF.other ?_ | refine TryA.g ?_ | refine TryA.next rfl ?_ | refine TryA.other ?_ | refine TryS.g ?_ | refine TryS.next rfl ?_ | refine TryS.other ?_ | refine TryG.g ?_ | refine TryG.next rfl ?_)
      refine ⟨⟨_, _, rfl, rfl, ?_⟩⟩
      exact AvLe.refl _
    · refine fn_sp (C := CX) [] [] tysX_ok mixed Tryz.func37 rfl (by kernel_rfl) Tryz.ntmps37 rfl rfl ?_
      repeat' ((conv => whnf); first | refine Ob.g ?_ | refine Cases.y ?_ | refine Cases.n ?_ | refine Idx.g rfl ?_ | refine Idx.z rfl ?_ | refine DrawOb.start ?_ | refine TryF.f ?_ | refine TryF.next rfl ?_ | refine TryF.other ?_ | refine TryA.g ?_ | refine TryA.next rfl ?_ | refine TryA.other ?_ | refine TryS.g ?_ | refine TryS.next rfl ?_ | refine TryS.other ?_ | refine TryG.g ?_ | refine TryG.next rfl ?_)
      refine ⟨⟨_, _, rfl, rfl, ?_⟩⟩
      exact AvLe.refl _
  · rw [if_neg h]
    refine fn_sp (C := CX) [] [] tysX_ok mixed Tryz.func37 rfl (by kernel_rfl) Tryz.ntmps37 rfl rfl ?_
    repeat' ((conv => whnf); first | refine Ob.g ?_ | refine Cases.y ?_ | refine Cases.n ?_ | refine Idx.g rfl ?_ | refine Idx.z rfl ?_ | refine DrawOb.start ?_ | refine TryF.f ?_ | refine TryF.next rfl ?_ | refine TryF.other ?_ | refine TryA.g ?_ | refine TryA.next rfl ?_ | refine TryA.other ?_ | refine TryS.g ?_ | refine TryS.next rfl ?_ | refine TryS.other ?_ | refine TryG.g ?_ | refine TryG.next rfl ?_)
    refine ⟨⟨_, _, rfl, rfl, ?_⟩⟩
    exact AvLe.refl _
theorem rprime28_sp (p : Nat) (hp : 2 ≤ p) (hp2 : p ≤ 1000) : Sp CX 65 [int .i64 p] (bool (pq p p)) := by
  obtain ⟨t, ht⟩ : ∃ t, t = pq p p := ⟨_, rfl⟩
  rw [← ht]
  have HT := Lib.hid ht
  clear ht
  refine fn_sp (C := CX) [] [] tysX_ok mixed Tryz.func65 rfl (by kernel_rfl) Tryz.ntmps65 rfl rfl ?_
  repeat' ((conv => whnf); first | refine Ob.g ?_ | refine Cases.y ?_ | refine Cases.n ?_ | refine Idx.g rfl ?_ | refine Idx.z rfl ?_ | refine DrawOb.start ?_ | refine TryF.f ?_ | refine TryF.next rfl ?_ | refine TryF.other ?_ | refine TryA.g ?_ | refine TryA.next rfl ?_ | refine TryA.other ?_ | refine TryS.g ?_ | refine TryS.next rfl ?_ | refine TryS.other ?_ | refine TryG.g ?_ | refine TryG.next rfl ?_)
  refine ⟨⟨Nat, fun q => ⟨[(0, int .i64 p), (3, int .i64 q)], [], 0⟩, fun q => 2 ≤ q ∧ q ≤ p ∧ Hid (pq p q = true), fun q => p - q, ⟨2, [], ⟨Nat.le_refl _, hp, Lib.hid rfl⟩, Ent.g⟩, ?_⟩⟩
  rintro q ⟨k1, k2, k3⟩
  have em : (p : Int).tmod q = ((p % q : Nat) : Int) := (Int.ofNat_tmod p q).symm
  by_cases hq : q < p
  · by_cases hz : p % q = 0
    · have ht : t = false := by
        rw [HT.out, Bool.eq_false_iff]
        intro h
        unfold pq at h
        have := List.all_eq_true.1 h (q - 2) (List.mem_range.2 (by omega))
        rw [show q - 2 + 2 = q by omega, hz] at this
        cases this
      subst ht
      clear HT
      repeat' ((conv => whnf); first | refine Ob.g ?_ | refine Cases.y ?_ | refine Cases.n ?_ | refine Idx.g rfl ?_ | refine Idx.z rfl ?_ | refine DrawOb.start ?_ | refine TryF.f ?_ | refine TryF.next rfl ?_ | refine TryF.other ?_ | refine TryA.g ?_ | refine TryA.next rfl ?_ | refine TryA.other ?_ | refine TryS.g ?_ | refine TryS.next rfl ?_ | refine TryS.other ?_ | refine TryG.g ?_ | refine TryG.next rfl ?_)
      refine ⟨⟨_, _, rfl, rfl, ?_⟩⟩
      exact AvLe.refl _
    · have hn : Hid (pq p (q + 1) = true) := Lib.hid (by
        rw [pq_succ k1, k3.out, Bool.true_and]
        simpa using hz)
      repeat' ((conv => whnf); first | refine Ob.g ?_ | refine Cases.y ?_ | refine Cases.n ?_ | refine Idx.g rfl ?_ | refine Idx.z rfl ?_ | refine DrawOb.start ?_ | refine TryF.f ?_ | refine TryF.next rfl ?_ | refine TryF.other ?_ | refine TryA.g ?_ | refine TryA.next rfl ?_ | refine TryA.other ?_ | refine TryS.g ?_ | refine TryS.next rfl ?_ | refine TryS.other ?_ | refine TryG.g ?_ | refine TryG.next rfl ?_)
      exact ⟨q + 1, [], ⟨by omega, hq, hn⟩, by show p - (q + 1) < p - q; omega, Ent.g⟩
  · obtain rfl : q = p := by omega
    have ht : t = true := HT.out.trans k3.out
    subst ht
    repeat' ((conv => whnf); first | refine Ob.g ?_ | refine Cases.y ?_ | refine Cases.n ?_ | refine Idx.g rfl ?_ | refine Idx.z rfl ?_ | refine DrawOb.start ?_ | refine TryF.f ?_ | refine TryF.next rfl ?_ | refine TryF.other ?_ | refine TryA.g ?_ | refine TryA.next rfl ?_ | refine TryA.other ?_ | refine TryS.g ?_ | refine TryS.next rfl ?_ | refine TryS.other ?_ | refine TryG.g ?_ | refine TryG.next rfl ?_)
    refine ⟨⟨_, _, rfl, rfl, ?_⟩⟩
    exact AvLe.refl _
theorem rphi28_sp (n : Nat) (hn : n ≤ 1000) : Sp CX 67 [int .i64 n] (int .i64 (cntU n n : Nat)) := by
  obtain ⟨t, ht⟩ : ∃ t, t = cntU n n := ⟨_, rfl⟩
  rw [← ht]
  have HT := Lib.hid ht
  clear ht
  have hle : ∀ m, cntU n m ≤ m := fun m => by
    induction m with
    | zero => exact Nat.le_refl _
    | succ m ih => rw [cntU]; cases Nat.gcd (m + 1) n == 1 <;> simp <;> omega
  refine fn_sp (C := CX) [] [] tysX_ok mixed Tryz.func67 rfl (by kernel_rfl) Tryz.ntmps67 rfl rfl ?_
  repeat' ((conv => whnf); first | refine Ob.g ?_ | refine Cases.y ?_ | refine Cases.n ?_ | refine Idx.g rfl ?_ | refine Idx.z rfl ?_ | refine DrawOb.start ?_ | refine TryF.f ?_ | refine TryF.next rfl ?_ | refine TryF.other ?_ | refine TryA.g ?_ | refine TryA.next rfl ?_ | refine TryA.other ?_ | refine TryS.g ?_ | refine TryS.next rfl ?_ | refine TryS.other ?_ | refine TryG.g ?_ | refine TryG.next rfl ?_)
  refine ⟨⟨Nat × Nat, fun (u, k) => ⟨[(0, int .i64 n), (3, int .i64 k), (4, int .i64 (u + 1 : Nat))], [], 0⟩, fun (u, k) => u ≤ n ∧ Hid (k = cntU n u), fun (u, _) => n - u, ⟨(0, 0), [], ⟨Nat.zero_le _, Lib.hid rfl⟩, Ent.g⟩, ?_⟩⟩
  rintro ⟨u, k⟩ ⟨k1, k2⟩
  have hk := hle u
  rw [← k2.out] at hk
  by_cases hu : u < n
  · have s := gcd18_sp ((u + 1 : Nat) : Int) (n : Int) (by omega) (by omega) (by omega) (by omega)
    rw [Int.gcd_natCast_natCast] at s
    by_cases hg : Nat.gcd (u + 1) n = 1
    · have hn2 : Hid (k + 1 = cntU n (u + 1)) := Lib.hid (by rw [cntU, hg, ← k2.out]; rfl)
      rw [hg] at s
      repeat' ((conv => whnf); first | refine Ob.g ?_ | refine Cases.y ?_ | refine Cases.n ?_ | refine Idx.g rfl ?_ | refine Idx.z rfl ?_ | refine DrawOb.start ?_ | refine TryF.f ?_ | refine TryF.next rfl ?_ | refine TryF.other ?_ | refine TryA.g ?_ | refine TryA.next rfl ?_ | refine TryA.other ?_ | refine TryS.g ?_ | refine TryS.next rfl ?_ | refine TryS.other ?_ | refine TryG.g ?_ | refine TryG.next rfl ?_ | refine Sp.g (s) ?_)
      exact ⟨(u + 1, k + 1), [], ⟨hu, hn2⟩, by show n - (u + 1) < n - u; omega, Ent.g⟩
    · have hn2 : Hid (k = cntU n (u + 1)) := Lib.hid (by rw [cntU, show (Nat.gcd (u + 1) n == 1) = false from beq_eq_false_iff_ne.2 hg, ← k2.out]; rfl)
      generalize Nat.gcd (u + 1) n = g at *
      repeat' ((conv => whnf); first | refine Ob.g ?_ | refine Cases.y ?_ | refine Cases.n ?_ | refine Idx.g rfl ?_ | refine Idx.z rfl ?_ | refine DrawOb.start ?_ | refine TryF.f ?_ | refine TryF.next rfl ?_ | refine TryF.other ?_ | refine TryA.g ?_ | refine TryA.next rfl ?_ | refine TryA.other ?_ | refine TryS.g ?_ | refine TryS.next rfl ?_ | refine TryS.other ?_ | refine TryG.g ?_ | refine TryG.next rfl ?_ | refine Sp.g (s) ?_)
      exact ⟨(u + 1, k), [], ⟨hu, hn2⟩, by show n - (u + 1) < n - u; omega, Ent.g⟩
  · obtain rfl : u = n := by omega
    have ht : t = k := HT.out.trans k2.out.symm
    subst ht
    repeat' ((conv => whnf); first | refine Ob.g ?_ | refine Cases.y ?_ | refine Cases.n ?_ | refine Idx.g rfl ?_ | refine Idx.z rfl ?_ | refine DrawOb.start ?_ | refine TryF.f ?_ | refine TryF.next rfl ?_ | refine TryF.other ?_ | refine TryA.g ?_ | refine TryA.next rfl ?_ | refine TryA.other ?_ | refine TryS.g ?_ | refine TryS.next rfl ?_ | refine TryS.other ?_ | refine TryG.g ?_ | refine TryG.next rfl ?_)
    refine ⟨⟨_, _, rfl, rfl, AvLe.int ?_⟩⟩
    rfl
theorem rord28_sp (a q d : Nat) (hq : 1 ≤ q) (hq2 : q ≤ 1000) (ha : a ≤ 1000) (hd : ordO a q = some d) (hd2 : d ≤ 100000) : Sp CX 66 [int .i64 a, int .i64 q] (int .i64 d) := by
  obtain ⟨h1, h2, h3⟩ := ordO_spec hd
  clear hd
  have e0 : (a : Int).tmod q = ((powM a q 1 : Nat) : Int) := by rw [powM_one]; exact (Int.ofNat_tmod _ _).symm
  have e1 : (1 : Int).tmod q = ((1 % q : Nat) : Int) := by have := (Int.ofNat_tmod 1 q).symm; simpa using this
  have hlt : ∀ k, powM a q k < q := fun k => by rw [powM_eq]; exact Nat.mod_lt _ (by omega)
  have hps : ∀ k, ((powM a q k : Nat) * (a : Nat) : Int).tmod q = ((powM a q (k + 1) : Nat) : Int) := fun k => by
    rw [powM, ← Int.natCast_mul]; exact (Int.ofNat_tmod _ _).symm
  have hpm : ∀ k, 0 ≤ ((powM a q k : Nat) : Int) * (a : Nat) ∧ ((powM a q k : Nat) : Int) * (a : Nat) ≤ 1000 * 1000 := fun k =>
    ⟨Int.mul_nonneg (by omega) (by omega), Int.mul_le_mul (by have := hlt k; omega) (by omega) (by omega) (by omega)⟩
  refine fn_sp (C := CX) [] [] tysX_ok mixed Tryz.func66 rfl (by kernel_rfl) Tryz.ntmps66 rfl rfl ?_
  repeat' ((conv => whnf); first | refine Ob.g ?_ | refine Cases.y ?_ | refine Cases.n ?_ | refine Idx.g rfl ?_ | refine Idx.z rfl ?_ | refine DrawOb.start ?_ | refine TryF.f ?_ | refine TryF.next rfl ?_ | refine TryF.other ?_ | refine TryA.g ?_ | refine TryA.next rfl ?_ | refine TryA.other ?_ | refine TryS.g ?_ | refine TryS.next rfl ?_ | refine TryS.other ?_ | refine TryG.g ?_ | refine TryG.next rfl ?_)
  refine ⟨⟨Nat × Nat, fun (k, x) => ⟨[(0, int .i64 a), (1, int .i64 q), (5, int .i64 k), (6, int .i64 x)], [], 0⟩, fun (k, x) => 1 ≤ k ∧ k ≤ d ∧ Hid (x = powM a q k), fun (k, _) => d - k, ⟨(1, powM a q 1), [], ⟨Nat.le_refl _, h1, Lib.hid rfl⟩, Ent.g⟩, ?_⟩⟩
  rintro ⟨k, x⟩ ⟨k1, k2, hx⟩
  have hx := hx.out
  have b1 := hlt k
  have b2 := hps k
  have b3 := hpm k
  have b4 := hlt (k + 1)
  by_cases hk : k = d
  · subst hk
    rw [← hx] at h2 b1 b2 b3
    clear h3 hps hpm hlt hx
    repeat' ((conv => whnf); first | refine Ob.g ?_ | refine Cases.y ?_ | refine Cases.n ?_ | refine Idx.g rfl ?_ | refine Idx.z rfl ?_ | refine DrawOb.start ?_ | refine TryF.f ?_ | refine TryF.next rfl ?_ | refine TryF.other ?_ | refine TryA.g ?_ | refine TryA.next rfl ?_ | refine TryA.other ?_ | refine TryS.g ?_ | refine TryS.next rfl ?_ | refine TryS.other ?_ | refine TryG.g ?_ | refine TryG.next rfl ?_)
    refine ⟨⟨_, _, rfl, rfl, AvLe.int ?_⟩⟩
    rfl
  · have hne := h3 k k1 (by omega)
    rw [← hx] at hne b1 b2 b3
    obtain ⟨z, hz⟩ : ∃ z, z = powM a q (k + 1) := ⟨_, rfl⟩
    rw [← hz] at b2 b4
    have HZ := Lib.hid hz
    clear h2 h3 hps hpm hlt hx hz e0
    repeat' ((conv => whnf); first | refine Ob.g ?_ | refine Cases.y ?_ | refine Cases.n ?_ | refine Idx.g rfl ?_ | refine Idx.z rfl ?_ | refine DrawOb.start ?_ | refine TryF.f ?_ | refine TryF.next rfl ?_ | refine TryF.other ?_ | refine TryA.g ?_ | refine TryA.next rfl ?_ | refine TryA.other ?_ | refine TryS.g ?_ | refine TryS.next rfl ?_ | refine TryS.other ?_ | refine TryG.g ?_ | refine TryG.next rfl ?_)
    exact ⟨(k + 1, z), [], ⟨by omega, by omega, HZ⟩, by show d - (k + 1) < d - k; omega, Ent.g⟩
theorem rboth28_sp (g : Int) (q n x : Nat) (hg : -1000 ≤ g) (hg2 : g ≤ 1000) (hq : 1 ≤ q) (hn : n ≤ 1000) (hqn : q ≤ n) (h : bothT g q n = some x) : Sp CX 68 [int .i64 g, int .i64 q, int .i64 n] (int .i64 x) := by
  obtain ⟨h1, h2, h3, h4⟩ := both_spec h
  clear h
  have hdq : ((n : Nat) : Int).tdiv (q : Nat) = ((n / q : Nat) : Int) := (Int.ofNat_tdiv _ _).symm
  have hdl := Nat.div_le_self n q
  have hdp : 0 < n / q := Nat.div_pos hqn hq
  generalize n / q = m at *
  refine fn_sp (C := CX) [] [] tysX_ok mixed Tryz.func68 rfl (by kernel_rfl) Tryz.ntmps68 rfl rfl ?_
  repeat' ((conv => whnf); first | refine Ob.g ?_ | refine Cases.y ?_ | refine Cases.n ?_ | refine Idx.g rfl ?_ | refine Idx.z rfl ?_ | refine DrawOb.start ?_ | refine TryF.f ?_ | refine TryF.next rfl ?_ | refine TryF.other ?_ | refine TryA.g ?_ | refine TryA.next rfl ?_ | refine TryA.other ?_ | refine TryS.g ?_ | refine TryS.next rfl ?_ | refine TryS.other ?_ | refine TryG.g ?_ | refine TryG.next rfl ?_)
  refine ⟨⟨Nat, fun y => ⟨[(0, int .i64 g), (1, int .i64 q), (2, int .i64 n), (7, int .i64 y)], [], 0⟩, fun y => y ≤ x, fun y => x - y, ⟨0, [], Nat.zero_le _, Ent.g⟩, ?_⟩⟩
  intro y hy
  have s1 := mod_sp ((y : Int) - g) q (by omega) (by omega) (by omega) (by omega)
  have s2 := mod_sp ((y : Int) - 1) m (by omega) (by omega) (by omega) (by omega)
  by_cases hyx : y = x
  · subst hyx
    rw [h2] at s1
    rw [h3] at s2
    clear h2 h3 h4
    repeat' ((conv => whnf); first | refine Ob.g ?_ | refine Cases.y ?_ | refine Cases.n ?_ | refine Idx.g rfl ?_ | refine Idx.z rfl ?_ | refine DrawOb.start ?_ | refine TryF.f ?_ | refine TryF.next rfl ?_ | refine TryF.other ?_ | refine TryA.g ?_ | refine TryA.next rfl ?_ | refine TryA.other ?_ | refine TryS.g ?_ | refine TryS.next rfl ?_ | refine TryS.other ?_ | refine TryG.g ?_ | refine TryG.next rfl ?_ | refine Sp.g (s1) ?_ | refine Sp.call (s2) (.cons (.refl _) (.cons (AvLe.int hdq) .nil)) rfl (AvLe.refl _) ?_)
    refine ⟨⟨_, _, rfl, rfl, AvLe.int ?_⟩⟩
    rfl
  · have hno := h4 y (by omega)
    clear h2 h3 h4
    generalize ((y : Int) - g) % (q : Int) = r1 at *
    generalize ((y : Int) - 1) % (m : Int) = r2 at *
    by_cases c1 : r1 = 0
    · have c2 : r2 ≠ 0 := fun h => hno ⟨c1, h⟩
      repeat' ((conv => whnf); first | refine Ob.g ?_ | refine Cases.y ?_ | refine Cases.n ?_ | refine Idx.g rfl ?_ | refine Idx.z rfl ?_ | refine DrawOb.start ?_ | refine TryF.f ?_ | refine TryF.next rfl ?_ | refine TryF.other ?_ | refine TryA.g ?_ | refine TryA.next rfl ?_ | refine TryA.other ?_ | refine TryS.g ?_ | refine TryS.next rfl ?_ | refine TryS.other ?_ | refine TryG.g ?_ | refine TryG.next rfl ?_ | refine Sp.g (s1) ?_ | refine Sp.call (s2) (.cons (.refl _) (.cons (AvLe.int hdq) .nil)) rfl (AvLe.refl _) ?_)
      exact ⟨y + 1, [], (by omega : y + 1 ≤ x), by show x - (y + 1) < x - y; omega, Ent.g⟩
    · repeat' ((conv => whnf); first | refine Ob.g ?_ | refine Cases.y ?_ | refine Cases.n ?_ | refine Idx.g rfl ?_ | refine Idx.z rfl ?_ | refine DrawOb.start ?_ | refine TryF.f ?_ | refine TryF.next rfl ?_ | refine TryF.other ?_ | refine TryA.g ?_ | refine TryA.next rfl ?_ | refine TryA.other ?_ | refine TryS.g ?_ | refine TryS.next rfl ?_ | refine TryS.other ?_ | refine TryG.g ?_ | refine TryG.next rfl ?_ | refine Sp.g (s1) ?_ | refine Sp.call (s2) (.cons (.refl _) (.cons (AvLe.int hdq) .nil)) rfl (AvLe.refl _) ?_)
      exact ⟨y + 1, [], (by omega : y + 1 ≤ x), by show x - (y + 1) < x - y; omega, Ent.g⟩
end Go.Proofs.YtedfcemebdlgfaaGreatDoor

/- Dirichlet characters: the reference's generators, walked. -/
namespace HP
/-- what the reference appends, prime by prime -/
def rl (n : Nat) : List Nat := (List.range (n + 1)).drop 2
theorem rl_at {n p : Nat} (h1 : 2 ≤ p) (h2 : p ≤ n) : (rl n)[p - 2]? = some p := by
  unfold rl
  rw [List.getElem?_drop, List.getElem?_range (by omega), show 2 + (p - 2) = p by omega]
def cR (n p : Nat) : Nat := (((rl n).take (p - 2)).flatMap (genR n)).length
theorem gen_all {n : Nat} (h1 : 1 ≤ n) (h2 : n ≤ 60) : (rl n).flatMap (genR n) = (prts n).map fun P => (genT n P, P.o) := by
  have := allB_at gen_chk (show n < 61 by omega)
  rw [show Nat.beq n 0 = false from by
    rw [Bool.eq_false_iff]; intro h; have := Nat.eq_of_beq_eq_true h; omega, Bool.false_or] at this
  exact of_decide_eq_true this
theorem cR_end {n : Nat} (h1 : 1 ≤ n) (h2 : n ≤ 60) : cR n (max n 1 + 1) = np n := by
  unfold cR
  rw [List.take_of_length_le (by unfold rl; simp; omega), gen_all h1 h2, List.length_map]; rfl
end HP
namespace Go.Proofs.YtedfcemebdlgfaaGreatDoor
open Go Go.RowKit Go.VG HP
theorem cR_le {n p : Nat} (h1 : 1 ≤ n) (h2 : n ≤ 60) : cR n p ≤ np n := by
  have := cnt_le (genR n) (rl n) (p - 2)
  rw [gen_all h1 h2, List.length_map] at this
  exact this
theorem cR_next {n p : Nat} (hp : 2 ≤ p) (hpn : p ≤ n) : cR n (p + 1) = cR n p + (genR n p).length := by
  unfold cR
  rw [show p + 1 - 2 = (p - 2) + 1 by omega, flat_take (genR n) (rl_at hp hpn), List.length_append]
theorem genR_at {n p j : Nat} {y : Nat × Nat} (h1 : 1 ≤ n) (h2 : n ≤ 60) (hp : 2 ≤ p) (hpn : p ≤ n) (h : (genR n p)[j]? = some y) : cR n p + j < np n ∧ y = (genT n (prtAt n (cR n p + j)), (prtAt n (cR n p + j)).o) := by
  have := flat_at (genR n) (rl_at hp hpn) h
  rw [gen_all h1 h2, List.getElem?_map] at this
  have e : ((List.flatMap (genR n) (List.take (p - 2) (rl n))).length + j) = cR n p + j := rfl
  rw [e] at this
  cases hq : (prts n)[cR n p + j]? with
  | none => rw [hq] at this; cases this
  | some P =>
    rw [hq] at this
    have hl := (List.getElem?_eq_some_iff.1 hq).1
    refine ⟨hl, ?_⟩
    unfold prtAt
    rw [List.getD_eq_getElem?_getD, hq]
    simpa using this.symm
/-- what is reckoned of a prime p and n -/
structure RefP (n p : Nat) : Prop where
  no : pq p p = false ∨ qe n p = 0 → genR n p = []
  dv : pq p p = true → ∀ j, j < qe n p → n % (p ^ j * p) = 0
  nd : pq p p = true → n % (p ^ qe n p * p) ≠ 0
  mem : pq p p = true → qe n p ≠ 0 → (p, qe n p) ∈ facC n ∧ genR n p = (partOf (p, qe n p)).map fun P => (genT n P, P.o)
theorem refP {n p : Nat} (h1 : 1 ≤ n) (h2 : n ≤ 60) (hp : 2 ≤ p) (hpn : p ≤ n) : RefP n p := by
  have hb : ∀ {a b : Nat}, b ≤ a → Nat.blt a b = false := fun {a b} h => by
    rw [Bool.eq_false_iff]
    intro x
    have := blt_lt x
    omega
  have h := allB_at ref_chk (show n < 61 by omega)
  rw [show Nat.beq n 0 = false from nbeq_f (by omega), Bool.false_or] at h
  have h := allB_at h (show p < 61 by omega)
  rw [hb hp, hb hpn, Bool.false_or, Bool.false_or] at h
  refine ⟨fun hn => ?_, fun hq j hj => ?_, fun hq => ?_, fun hq h0 => ?_⟩
  · unfold genR
    rcases hn with h | h <;> rw [h]
    · rfl
    · rw [Nat.beq_refl]; cases pq p p <;> rfl
  all_goals
    rw [hq] at h
    simp only [cond_true, Bool.and_eq_true] at h
    obtain ⟨⟨a1, a2⟩, a3⟩ := h
  · have := List.all_eq_true.1 a1 j (List.mem_range.2 hj)
    simpa using this
  · simpa using a2
  · rw [show Nat.beq (qe n p) 0 = false from nbeq_f h0, Bool.false_or] at a3
    refine ⟨by simpa using a3, ?_⟩
    unfold genR
    rw [hq, show Nat.beq (qe n p) 0 = false from nbeq_f h0]
    rfl
theorem cntU_part {n : Nat} (h1 : 1 ≤ n) (h2 : n ≤ 60) {P : Prt} (hP : P ∈ prts n) (ho : P.q % 2 = 1) : cntU P.q P.q = P.o := by
  have h := allB_at cnt_chk (show n < 61 by omega)
  rw [show Nat.beq n 0 = false from nbeq_f (by omega), Bool.false_or, Bool.and_eq_true] at h
  have := List.all_eq_true.1 h.2 P hP
  have hs : isSg P = false := by unfold isSg; rw [ho]; rfl
  rw [hs, ho] at this
  simpa using this
theorem cntU_all {n : Nat} (h1 : 1 ≤ n) (h2 : n ≤ 60) : cntU n n = dn n (np n) := by
  have h := allB_at cnt_chk (show n < 61 by omega)
  rw [show Nat.beq n 0 = false from nbeq_f (by omega), Bool.false_or, Bool.and_eq_true] at h
  simpa using h.1
end Go.Proofs.YtedfcemebdlgfaaGreatDoor

/- Dirichlet characters: the reference's Generators, walked. -/
namespace Go.Proofs.YtedfcemebdlgfaaGreatDoor
open Go Go.RowKit Go.VG HP
theorem ordA_lt {g q d : Nat} : ∀ f k x, ordA g q f k x = some d → d < k + f
  | 0, _, _, h => by simp [ordA] at h
  | f + 1, k, x, h => by
    rw [ordA] at h
    split at h
    · cases h; omega
    · have := ordA_lt f (k + 1) _ h; omega
theorem ordO_le {g q d : Nat} (h : ordO g q = some d) : d ≤ q := by
  have := ordA_lt _ _ _ h
  omega
theorem odd_chk : allB 61 (fun n => (facC n).all fun f => Nat.ble f.1 2 || f.1 ^ f.2 % 2 == 1) = true := by decide +kernel
theorem odd_at {n p e : Nat} (hn : n ≤ 60) (h : (p, e) ∈ facC n) (hp : 2 < p) : p ^ e % 2 = 1 := by
  have hc := List.all_eq_true.1 (allB_at odd_chk (show n < 61 by omega)) _ h
  have hb : Nat.ble p 2 = false := by
    rw [Bool.eq_false_iff]
    intro x
    have := Nat.le_of_ble_eq_true x
    omega
  simpa [hb] using hc
theorem gcd_pow {x p e : Nat} (he : e ≠ 0) : Nat.gcd x (p ^ e) = 1 ↔ Nat.gcd x p = 1 := by
  constructor
  · intro h
    have h1 : p ∣ p ^ e := by
      obtain ⟨k, rfl⟩ := Nat.exists_eq_succ_of_ne_zero he
      exact Nat.dvd_mul_left _ _
    exact Nat.Coprime.coprime_dvd_right h1 h
  · intro h
    exact Nat.Coprime.pow_right e h
set_option maxHeartbeats 8000000 in
theorem rgens28_sp (n : Nat) (hn0 : 1 ≤ n) (hn : n ≤ 60) (G O : Nat → Nat) (hG : ∀ i, i < np n → G i = genT n (prtAt n i)) (hO : ∀ i, i < np n → O i = (prtAt n i).o) :
    Sp CX 38 [int .i64 n] (.tup [nsA G (np n), nsA O (np n)]) := by
  have hl := np_le hn
  refine fn_sp (C := CX) [] [0,1] tysX_ok mixed Tryz.func38 rfl (by kernel_rfl) Tryz.ntmps38 rfl rfl ?_
  repeat' ((conv => whnf); first | refine Ob.g ?_ | refine Cases.y ?_ | refine Cases.n ?_ | refine Idx.g rfl ?_ | refine Idx.z rfl ?_ | refine DrawOb.start ?_ | refine TryF.f ?_ | refine TryF.next rfl ?_ | refine TryF.other ?_ | refine TryA.g ?_ | refine TryA.next rfl ?_ | refine TryA.other ?_ | refine TryS.g ?_ | refine TryS.next rfl ?_ | refine TryS.other ?_ | refine TryG.g ?_ | refine TryG.next rfl ?_)
  refine ⟨⟨Nat × Nat, fun (p, m) => ⟨[(0, int .i64 n), (4, .v (.c (.row 0))), (5, .v (.c (.row 1))), (6, int .i64 p)], [(0, .rw 1 3 false Nat nsL G m), (1, .rw 1 3 false Nat nsL O m)], 2⟩, fun (p, m) => 2 ≤ p ∧ p ≤ max n 1 + 1 ∧ Hid (m = cR n p), fun (p, _) => 62 - p, ⟨(2, 0), [.n 4 0 1 3, .n 5 1 1 3], ⟨Nat.le_refl _, by omega, Lib.hid rfl⟩, Ent.g⟩, ?_⟩⟩
  rintro ⟨p, m⟩ ⟨k1, k2, k3⟩
  have k3 := k3.out
  have hm3 : m ≤ 3 := by rw [k3]; have := cR_le (p := p) hn0 hn; omega
  by_cases hd : p ≤ n
  · have R := refP hn0 hn k1 hd
    have hcn := cR_next k1 hd
    have hat : ∀ (j : Nat) (y : Nat × Nat), (genR n p)[j]? = some y → G (m + j) = y.1 ∧ O (m + j) = y.2 := fun j y h => by
      obtain ⟨h1, h2⟩ := genR_at hn0 hn k1 hd h
      rw [← k3] at h1 h2
      rw [hG _ h1, hO _ h1, h2]
      exact ⟨rfl, rfl⟩
    rw [← k3] at hcn
    have s1 := rprime28_sp p k1 (by omega)
    clear k3
    obtain ⟨e, he⟩ : ∃ e, e = if pq p p = true then qe n p else 0 := ⟨_, rfl⟩
    have hpe : p ^ e ≤ 60 := by
      rw [he]
      split
      · next h =>
        by_cases h0 : qe n p = 0
        · rw [h0, Nat.pow_zero]; omega
        · have hm := (R.mem h h0).1
          obtain ⟨_, _, _, _, _, b6, _⟩ := facs_bounds (show 0 < n by omega) (by rw [facs_C60 hn0 hn]; exact hm)
          omega
      · rw [Nat.pow_zero]; omega
    have hb1 : ∀ j, j < e → n % (p ^ j * p) = 0 ∧ pq p p = true := fun j hj => by
      rw [he] at hj
      split at hj
      · next h => exact ⟨R.dv h j hj, h⟩
      · omega
    have hb2 : n % (p ^ e * p) ≠ 0 ∨ pq p p = false := by
      cases hq : pq p p with
      | false => exact .inr rfl
      | true => left; rw [he, hq, if_pos rfl]; exact R.nd hq
    repeat' ((conv => whnf); first | refine Ob.g ?_ | refine Cases.y ?_ | refine Cases.n ?_ | refine Idx.g rfl ?_ | refine Idx.z rfl ?_ | refine DrawOb.start ?_ | refine TryF.f ?_ | refine TryF.next rfl ?_ | refine TryF.other ?_ | refine TryA.g ?_ | refine TryA.next rfl ?_ | refine TryA.other ?_ | refine TryS.g ?_ | refine TryS.next rfl ?_ | refine TryS.other ?_ | refine TryG.g ?_ | refine TryG.next rfl ?_)
    refine ⟨⟨Nat × Nat, fun (j, q) => ⟨[(0, int .i64 n), (4, .v (.c (.row 0))), (5, .v (.c (.row 1))), (6, int .i64 p), (7, int .i64 q)], [(0, .rw 1 3 false Nat nsL G m), (1, .rw 1 3 false Nat nsL O m)], 2⟩, fun (j, q) => j ≤ e ∧ Hid (q = p ^ j), fun (j, _) => e - j, ⟨(0, 1), [], ⟨Nat.zero_le _, Lib.hid rfl⟩, Ent.g⟩, ?_⟩⟩
    rintro ⟨j, q⟩ ⟨j1, hq⟩
    have hq := hq.out
    have hq60 : q ≤ 60 := by rw [hq]; exact Nat.le_trans (Nat.pow_le_pow_right (by omega) j1) hpe
    have hq0 : 0 < q := by rw [hq]; exact Nat.pow_pos (by omega)
    have hqp : q * p ≤ 60 * 60 := Nat.mul_le_mul hq60 (by omega)
    have hqp0 : 0 < q * p := Nat.mul_pos hq0 (by omega)
    have i1 : (q : Int) * p = ((q * p : Nat) : Int) := by push_cast; rfl
    have em : (n : Int).tmod ((q : Int) * p) = ((n % (q * p) : Nat) : Int) := by rw [i1]; exact (Int.ofNat_tmod _ _).symm
    by_cases hj : j < e
    · obtain ⟨c1, c2⟩ := hb1 j hj
      rw [← hq] at c1
      rw [c2] at s1
      have hq2 : Hid (q * p = p ^ (j + 1)) := Lib.hid (by rw [Nat.pow_succ, ← hq])
      clear hb1 hb2 he hpe hq R hcn hat c2 hG hO
      generalize q * p = z at *
      repeat' ((conv => whnf); first | refine Ob.g ?_ | refine Cases.y ?_ | refine Cases.n ?_ | refine Idx.g rfl ?_ | refine Idx.z rfl ?_ | refine DrawOb.start ?_ | refine TryF.f ?_ | refine TryF.next rfl ?_ | refine TryF.other ?_ | refine TryA.g ?_ | refine TryA.next rfl ?_ | refine TryA.other ?_ | refine TryS.g ?_ | refine TryS.next rfl ?_ | refine TryS.other ?_ | refine TryG.g ?_ | refine TryG.next rfl ?_ | refine Sp.g (s1) ?_)
      exact ⟨(j + 1, z), [], ⟨hj, hq2⟩, by show e - (j + 1) < e - j; omega, Ent.g⟩
    · obtain rfl : j = e := by omega
      rw [← hq] at hb2
      have hnext : genR n p = [] → p + 1 ≤ max n 1 + 1 ∧ Hid (m = cR n (p + 1)) := fun h => ⟨by omega, Lib.hid (by rw [hcn, h]; rfl)⟩
      by_cases hsm : q = 1 ∨ q = 2
      · have hg : genR n p = [] := by
          rcases hsm with h | h
          · by_cases hc : pq p p = true
            · by_cases h0 : qe n p = 0
              · exact R.no (.inr h0)
              · exfalso
                have h1 : j = qe n p := by rw [he, if_pos hc]
                have : p ^ 1 ≤ p ^ j := Nat.pow_le_pow_right (by omega) (by omega)
                rw [← hq, h, Nat.pow_one] at this
                omega
            · exact R.no (.inl (by simpa using hc))
          · have hc : pq p p = true := by
              cases hc : pq p p with
              | true => rfl
              | false => rw [hc] at he; rw [he] at hq; simp at hq; omega
            have h1 : j = qe n p := by rw [he, if_pos hc]
            have h0 : qe n p ≠ 0 := fun h0 => by rw [h1, h0, Nat.pow_zero] at hq; omega
            obtain ⟨_, h2⟩ := R.mem hc h0
            rw [h2]
            have hp2 : p = 2 := by
              have : p ^ 1 ≤ p ^ j := Nat.pow_le_pow_right (by omega) (by omega)
              rw [← hq, h, Nat.pow_one] at this
              omega
            unfold partOf
            simp only
            rw [← h1, ← hq, h, if_neg (by omega), if_neg (by omega), if_neg (by omega)]
            rfl
        obtain ⟨n1, n2⟩ := hnext hg
        clear hnext hg hcn hat R he hpe hb1 hq hG hO
        by_cases hz : n % (q * p) = 0
        · have hpf : pq p p = false := by rcases hb2 with h | h; exact absurd hz h; exact h
          rw [hpf] at s1
          clear hb2
          generalize q * p = z at *
          by_cases hq1 : q = 1
          · repeat' ((conv => whnf); first | refine Ob.g ?_ | refine Cases.y ?_ | refine Cases.n ?_ | refine Idx.g rfl ?_ | refine Idx.z rfl ?_ | refine DrawOb.start ?_ | refine TryF.f ?_ | refine TryF.next rfl ?_ | refine TryF.other ?_ | refine TryA.g ?_ | refine TryA.next rfl ?_ | refine TryA.other ?_ | refine TryS.g ?_ | refine TryS.next rfl ?_ | refine TryS.other ?_ | refine TryG.g ?_ | refine TryG.next rfl ?_ | refine Sp.g (s1) ?_)
            exact ⟨(p + 1, m), [], ⟨by omega, n1, n2⟩, by show 62 - (p + 1) < 62 - p; omega, Ent.g⟩
          · repeat' ((conv => whnf); first | refine Ob.g ?_ | refine Cases.y ?_ | refine Cases.n ?_ | refine Idx.g rfl ?_ | refine Idx.z rfl ?_ | refine DrawOb.start ?_ | refine TryF.f ?_ | refine TryF.next rfl ?_ | refine TryF.other ?_ | refine TryA.g ?_ | refine TryA.next rfl ?_ | refine TryA.other ?_ | refine TryS.g ?_ | refine TryS.next rfl ?_ | refine TryS.other ?_ | refine TryG.g ?_ | refine TryG.next rfl ?_ | refine Sp.g (s1) ?_)
            exact ⟨(p + 1, m), [], ⟨by omega, n1, n2⟩, by show 62 - (p + 1) < 62 - p; omega, Ent.g⟩
        · clear hb2
          generalize q * p = z at *
          generalize pq p p = b at *
          by_cases hq1 : q = 1
          · repeat' ((conv => whnf); first | refine Ob.g ?_ | refine Cases.y ?_ | refine Cases.n ?_ | refine Idx.g rfl ?_ | refine Idx.z rfl ?_ | refine DrawOb.start ?_ | refine TryF.f ?_ | refine TryF.next rfl ?_ | refine TryF.other ?_ | refine TryA.g ?_ | refine TryA.next rfl ?_ | refine TryA.other ?_ | refine TryS.g ?_ | refine TryS.next rfl ?_ | refine TryS.other ?_ | refine TryG.g ?_ | refine TryG.next rfl ?_ | refine Sp.g (s1) ?_)
            exact ⟨(p + 1, m), [], ⟨by omega, n1, n2⟩, by show 62 - (p + 1) < 62 - p; omega, Ent.g⟩
          · repeat' ((conv => whnf); first | refine Ob.g ?_ | refine Cases.y ?_ | refine Cases.n ?_ | refine Idx.g rfl ?_ | refine Idx.z rfl ?_ | refine DrawOb.start ?_ | refine TryF.f ?_ | refine TryF.next rfl ?_ | refine TryF.other ?_ | refine TryA.g ?_ | refine TryA.next rfl ?_ | refine TryA.other ?_ | refine TryS.g ?_ | refine TryS.next rfl ?_ | refine TryS.other ?_ | refine TryG.g ?_ | refine TryG.next rfl ?_ | refine Sp.g (s1) ?_)
            exact ⟨(p + 1, m), [], ⟨by omega, n1, n2⟩, by show 62 - (p + 1) < 62 - p; omega, Ent.g⟩
      · have hc : pq p p = true := by
          cases hc : pq p p with
          | true => rfl
          | false => rw [hc] at he; rw [he] at hq; simp at hq; omega
        have h1 : j = qe n p := by rw [he, if_pos hc]
        have h0 : qe n p ≠ 0 := fun h0 => by rw [h1, h0, Nat.pow_zero] at hq; omega
        obtain ⟨hmem, hgr⟩ := R.mem hc h0
        have hz : n % (q * p) ≠ 0 := by rcases hb2 with h | h; exact h; rw [hc] at h; cases h
        rw [← h1] at hmem hgr
        have HROOT := fun h2 => root_at hn0 hn hmem h2
        rw [← hq] at HROOT
        have hin : ∀ P ∈ partOf (p, j), P ∈ prts n := fun P hP => List.mem_flatMap.2 ⟨_, hmem, hP⟩
        have hpo : partOf (p, j) = if 2 < p then [⟨rootT q (q / p * (p - 1)), q / p * (p - 1), q⟩] else if q = 4 then [⟨3, 2, 4⟩] else if 4 < q then [⟨q - 1, 2, q⟩, ⟨5, q / 4, q⟩] else [] := by
          unfold partOf
          simp only [← hq]
        have hj0 : j ≠ 0 := by rw [h1]; exact h0
        clear hnext hb1 hb2 he hpe R h0 h1
        by_cases c1 : 2 < p
        · rw [if_pos c1] at hpo
          obtain ⟨r1, r2, r3, r4, r5, r6, r7⟩ := HROOT c1
          rw [hpo] at hin hgr
          have hP := hin _ (List.mem_singleton.2 rfl)
          have ok := part_ok hn hP
          have hodd : q % 2 = 1 := by rw [hq]; exact odd_at hn hmem c1
          have hcu := cntU_part hn0 hn hP hodd
          have hr60 := ok.r60
          have ho60 := ok.o60
          have hbo := ok.both
          have hqn : q ≤ n := Nat.le_of_dvd (by omega) ok.dvd
          simp only at hcu hr60 ho60 hbo
          have hgl : (genR n p)[0]? = some (genT n ⟨rootT q (q / p * (p - 1)), q / p * (p - 1), q⟩, q / p * (p - 1)) := by rw [hgr]; rfl
          obtain ⟨g1, g2⟩ := hat 0 _ hgl
          rw [hgr] at hcn
          generalize genT n ⟨rootT q (q / p * (p - 1)), q / p * (p - 1), q⟩ = gg at *
          generalize q / p * (p - 1) = o at *
          generalize rootT q o = r at *
          have hco : ∀ x, Nat.gcd x q = 1 ↔ Nat.gcd x p = 1 := fun x => by rw [hq]; exact gcd_pow hj0
          have s2 := rphi28_sp q (by omega)
          rw [hcu] at s2
          have s3 := rboth28_sp (r : Int) q n gg (by omega) (by omega) (by omega) (by omega) hqn hbo
          have HCN := Lib.hid hcn
          clear HROOT hin hgr hpo hat hcn hP hG hO hgl hq
          rw [hc] at s1
          clear hc hmem
          repeat' ((conv => whnf); first | refine Ob.g ?_ | refine Cases.y ?_ | refine Cases.n ?_ | refine Idx.g rfl ?_ | refine Idx.z rfl ?_ | refine DrawOb.start ?_ | refine TryF.f ?_ | refine TryF.next rfl ?_ | refine TryF.other ?_ | refine TryA.g ?_ | refine TryA.next rfl ?_ | refine TryA.other ?_ | refine TryS.g ?_ | refine TryS.next rfl ?_ | refine TryS.other ?_ | refine TryG.g ?_ | refine TryG.next rfl ?_ | refine Sp.g (s1) ?_)
          refine ⟨⟨Nat, fun x => ⟨[(0, int .i64 n), (4, .v (.c (.row 0))), (5, .v (.c (.row 1))), (6, int .i64 p), (7, int .i64 q), (8, int .i64 x)], [(0, .rw 1 3 false Nat nsL G m), (1, .rw 1 3 false Nat nsL O m)], 2⟩, fun x => 1 ≤ x ∧ x ≤ r, fun x => r - x, ⟨1, [], ⟨Nat.le_refl _, r1⟩, Ent.g⟩, ?_⟩⟩
          rintro x ⟨x1, x2⟩
          have t1 := gcd18_sp (x : Int) (p : Int) (by omega) (by omega) (by omega) (by omega)
          rw [Int.gcd_natCast_natCast] at t1
          have hcx := hco x
          by_cases hx : x = r
          · subst hx
            have t2 := rord28_sp x q o (by omega) (by omega) (by omega) r3 (by omega)
            rw [hcx.1 r2] at t1
            clear r7 hco hcx r2 r3 r4
            repeat' ((conv => whnf); first | refine Ob.g ?_ | refine Cases.y ?_ | refine Cases.n ?_ | refine Idx.g rfl ?_ | refine Idx.z rfl ?_ | refine DrawOb.start ?_ | refine TryF.f ?_ | refine TryF.next rfl ?_ | refine TryF.other ?_ | refine TryA.g ?_ | refine TryA.next rfl ?_ | refine TryA.other ?_ | refine TryS.g ?_ | refine TryS.next rfl ?_ | refine TryS.other ?_ | refine TryG.g ?_ | refine TryG.next rfl ?_ | refine Sp.g (t1) ?_ | refine Sp.g (t2) ?_ | refine Sp.g (s2) ?_ | refine Sp.g (s3) ?_)
            refine ⟨⟨fun _ => gg, fun i j hi hj => ?_, fun _ _ _ _ => rfl, ?_⟩⟩
            · obtain rfl : i = 0 := by omega
              obtain rfl : j = 0 := by omega
              exact .refl _
            repeat' ((conv => whnf); first | refine Ob.g ?_ | refine Cases.y ?_ | refine Cases.n ?_ | refine Idx.g rfl ?_ | refine Idx.z rfl ?_ | refine DrawOb.start ?_ | refine TryF.f ?_ | refine TryF.next rfl ?_ | refine TryF.other ?_ | refine TryA.g ?_ | refine TryA.next rfl ?_ | refine TryA.other ?_ | refine TryS.g ?_ | refine TryS.next rfl ?_ | refine TryS.other ?_ | refine TryG.g ?_ | refine TryG.next rfl ?_ | refine Sp.g (s2) ?_)
            refine ⟨⟨fun _ => o, fun i j hi hj => ?_, fun _ _ _ _ => rfl, ?_⟩⟩
            · obtain rfl : i = 0 := by omega
              obtain rfl : j = 0 := by omega
              exact .refl _
            repeat' ((conv => whnf); first | refine Ob.g ?_ | refine Cases.y ?_ | refine Cases.n ?_ | refine Idx.g rfl ?_ | refine Idx.z rfl ?_ | refine DrawOb.start ?_ | refine TryF.f ?_ | refine TryF.next rfl ?_ | refine TryF.other ?_ | refine TryA.g ?_ | refine TryA.next rfl ?_ | refine TryA.other ?_ | refine TryS.g ?_ | refine TryS.next rfl ?_ | refine TryS.other ?_ | refine TryG.g ?_ | refine TryG.next rfl ?_)
            exact ⟨(p + 1, m + 1), [.r 4 0, .r 5 1], ⟨by omega, by omega, Lib.hid HCN.out.symm⟩, by show 62 - (p + 1) < 62 - p; omega, by
              refine ⟨?_, .cons rfl (blkLe_appN (c := 1) (fun i hi => by
                obtain rfl : i = 0 := by omega
                exact g1.symm) fun _ _ => rfl) (.cons rfl (blkLe_appN (c := 1) (fun i hi => by
                obtain rfl : i = 0 := by omega
                exact g2.symm) fun _ _ => rfl) .nil), rfl⟩
              repeat (first | exact TmE.nil | refine TmE.cons (by first | exact AvLe.refl _ | exact AvLe.int (by omega)) ?_)⟩
          · by_cases hg : Nat.gcd x p = 1
            · obtain ⟨d, d1, d2, d3⟩ := r7 x x1 (by omega) (hcx.2 hg)
              have t2 := rord28_sp x q d (by omega) (by omega) (by omega) d1 (by have := ordO_le d1; omega)
              rw [hg] at t1
              clear r7 hco hcx r2 r3 r4 d1 d3
              repeat' ((conv => whnf); first | refine Ob.g ?_ | refine Cases.y ?_ | refine Cases.n ?_ | refine Idx.g rfl ?_ | refine Idx.z rfl ?_ | refine DrawOb.start ?_ | refine TryF.f ?_ | refine TryF.next rfl ?_ | refine TryF.other ?_ | refine TryA.g ?_ | refine TryA.next rfl ?_ | refine TryA.other ?_ | refine TryS.g ?_ | refine TryS.next rfl ?_ | refine TryS.other ?_ | refine TryG.g ?_ | refine TryG.next rfl ?_ | refine Sp.g (t1) ?_ | refine Sp.g (t2) ?_ | refine Sp.g (s2) ?_)
              exact ⟨x + 1, [], ⟨by omega, by omega⟩, by show r - (x + 1) < r - x; omega, Ent.g⟩
            · clear r7 hco hcx r2 r3 r4
              generalize Nat.gcd x p = g at *
              repeat' ((conv => whnf); first | refine Ob.g ?_ | refine Cases.y ?_ | refine Cases.n ?_ | refine Idx.g rfl ?_ | refine Idx.z rfl ?_ | refine DrawOb.start ?_ | refine TryF.f ?_ | refine TryF.next rfl ?_ | refine TryF.other ?_ | refine TryA.g ?_ | refine TryA.next rfl ?_ | refine TryA.other ?_ | refine TryS.g ?_ | refine TryS.next rfl ?_ | refine TryS.other ?_ | refine TryG.g ?_ | refine TryG.next rfl ?_ | refine Sp.g (t1) ?_)
              exact ⟨x + 1, [], ⟨by omega, by omega⟩, by show r - (x + 1) < r - x; omega, Ent.g⟩
        · obtain rfl : p = 2 := by omega
          rw [if_neg c1] at hpo
          rw [hc] at s1
          by_cases c2 : q = 4
          · subst c2
            rw [if_pos rfl] at hpo
            rw [hpo] at hin hgr
            have hP := hin _ (List.mem_singleton.2 rfl)
            have ok := part_ok hn hP
            have hbo := ok.both
            have hqn : 4 ≤ n := Nat.le_of_dvd (by omega) ok.dvd
            simp only at hbo
            have hgl : (genR n 2)[0]? = some (genT n ⟨3, 2, 4⟩, 2) := by rw [hgr]; rfl
            obtain ⟨g1, g2⟩ := hat 0 _ hgl
            rw [hgr] at hcn
            generalize genT n ⟨3, 2, 4⟩ = gg at *
            have s3 := rboth28_sp 3 4 n gg (by omega) (by omega) (by omega) (by omega) hqn hbo
            have HCN := Lib.hid hcn
            clear HROOT hin hgr hpo hat hcn hP hG hO hgl hq hc hmem
            repeat' ((conv => whnf); first | refine Ob.g ?_ | refine Cases.y ?_ | refine Cases.n ?_ | refine Idx.g rfl ?_ | refine Idx.z rfl ?_ | refine DrawOb.start ?_ | refine TryF.f ?_ | refine TryF.next rfl ?_ | refine TryF.other ?_ | refine TryA.g ?_ | refine TryA.next rfl ?_ | refine TryA.other ?_ | refine TryS.g ?_ | refine TryS.next rfl ?_ | refine TryS.other ?_ | refine TryG.g ?_ | refine TryG.next rfl ?_ | refine Sp.g (s1) ?_ | refine Sp.g (s3) ?_)
            refine ⟨⟨fun _ => gg, fun i j hi hj => ?_, fun _ _ _ _ => rfl, ?_⟩⟩
            · obtain rfl : i = 0 := by omega
              obtain rfl : j = 0 := by omega
              exact .refl _
            repeat' ((conv => whnf); first | refine Ob.g ?_ | refine Cases.y ?_ | refine Cases.n ?_ | refine Idx.g rfl ?_ | refine Idx.z rfl ?_ | refine DrawOb.start ?_ | refine TryF.f ?_ | refine TryF.next rfl ?_ | refine TryF.other ?_ | refine TryA.g ?_ | refine TryA.next rfl ?_ | refine TryA.other ?_ | refine TryS.g ?_ | refine TryS.next rfl ?_ | refine TryS.other ?_ | refine TryG.g ?_ | refine TryG.next rfl ?_)
            refine ⟨⟨fun _ => 2, fun i j hi hj => ?_, fun _ _ _ _ => rfl, ?_⟩⟩
            · obtain rfl : i = 0 := by omega
              obtain rfl : j = 0 := by omega
              exact .refl _
            repeat' ((conv => whnf); first | refine Ob.g ?_ | refine Cases.y ?_ | refine Cases.n ?_ | refine Idx.g rfl ?_ | refine Idx.z rfl ?_ | refine DrawOb.start ?_ | refine TryF.f ?_ | refine TryF.next rfl ?_ | refine TryF.other ?_ | refine TryA.g ?_ | refine TryA.next rfl ?_ | refine TryA.other ?_ | refine TryS.g ?_ | refine TryS.next rfl ?_ | refine TryS.other ?_ | refine TryG.g ?_ | refine TryG.next rfl ?_)
            exact ⟨(2 + 1, m + 1), [.r 4 0, .r 5 1], ⟨by omega, by omega, Lib.hid HCN.out.symm⟩, by show 62 - (2 + 1) < 62 - 2; omega, by
              refine ⟨?_, .cons rfl (blkLe_appN (c := 1) (fun i hi => by
                obtain rfl : i = 0 := by omega
                exact g1.symm) fun _ _ => rfl) (.cons rfl (blkLe_appN (c := 1) (fun i hi => by
                obtain rfl : i = 0 := by omega
                exact g2.symm) fun _ _ => rfl) .nil), rfl⟩
              repeat (first | exact TmE.nil | refine TmE.cons (by first | exact AvLe.refl _ | exact AvLe.int (by omega)) ?_)⟩
          · have hq4 : 4 < q := by
              have : q = 2 ^ j := hq
              rcases Nat.lt_or_ge j 3 with h3 | h3
              · have : j = 0 ∨ j = 1 ∨ j = 2 := by omega
                rcases this with h | h | h <;> rw [h] at hq <;> simp at hq <;> omega
              · have : 2 ^ 3 ≤ 2 ^ j := Nat.pow_le_pow_right (by omega) h3
                omega
            rw [if_neg c2, if_pos hq4] at hpo
            rw [hpo] at hin hgr
            have ok := part_ok hn (hin ⟨q - 1, 2, q⟩ (by simp))
            have ok2 := part_ok hn (hin ⟨5, q / 4, q⟩ (by simp))
            have hbo := ok.both
            have hbo2 := ok2.both
            have hqn : q ≤ n := Nat.le_of_dvd (by omega) ok.dvd
            have hneg := ok.neg (by
              have : q % 2 = 0 := by
                rw [hq]
                obtain ⟨k, rfl⟩ := Nat.exists_eq_succ_of_ne_zero hj0
                rw [Nat.pow_succ]
                omega
              unfold isSg
              simp only [this]
              simp)
            simp only at hbo hbo2 hneg
            rw [hbo] at hneg
            have hgl : (genR n 2)[0]? = some (genT n ⟨q - 1, 2, q⟩, 2) := by rw [hgr]; rfl
            have hgl2 : (genR n 2)[1]? = some (genT n ⟨5, q / 4, q⟩, q / 4) := by rw [hgr]; rfl
            obtain ⟨g1, g2⟩ := hat 0 _ hgl
            obtain ⟨g3, g4⟩ := hat 1 _ hgl2
            rw [hgr] at hcn
            generalize genT n ⟨q - 1, 2, q⟩ = ga at *
            generalize genT n ⟨5, q / 4, q⟩ = gb at *
            have s3 := rboth28_sp (-1) q n ga (by omega) (by omega) (by omega) (by omega) hqn hneg
            have s4 := rboth28_sp 5 q n gb (by omega) (by omega) (by omega) (by omega) hqn hbo2
            have hdq : (q : Int).tdiv 4 = ((q / 4 : Nat) : Int) := (Int.ofNat_tdiv _ _).symm
            generalize q / 4 = q4 at *
            have HCN := Lib.hid hcn
            clear HROOT hin hgr hpo hat hcn hG hO hgl hgl2 hq hc hmem hbo hbo2 hneg
            repeat' ((conv => whnf); first | refine Ob.g ?_ | refine Cases.y ?_ | refine Cases.n ?_ | refine Idx.g rfl ?_ | refine Idx.z rfl ?_ | refine DrawOb.start ?_ | refine TryF.f ?_ | refine TryF.next rfl ?_ | refine TryF.other ?_ | refine TryA.g ?_ | refine TryA.next rfl ?_ | refine TryA.other ?_ | refine TryS.g ?_ | refine TryS.next rfl ?_ | refine TryS.other ?_ | refine TryG.g ?_ | refine TryG.next rfl ?_ | refine Sp.g (s1) ?_ | refine Sp.g (s3) ?_ | refine Sp.g (s4) ?_)
            refine ⟨⟨fun i => if i = 0 then ga else gb, fun i j hi hj => ?_, fun _ _ _ _ => rfl, ?_⟩⟩
            · obtain rfl : j = 0 := by omega
              have : i = 0 ∨ i = 1 := by omega
              rcases this with rfl | rfl
              · exact .refl _
              · exact .refl _
            repeat' ((conv => whnf); first | refine Ob.g ?_ | refine Cases.y ?_ | refine Cases.n ?_ | refine Idx.g rfl ?_ | refine Idx.z rfl ?_ | refine DrawOb.start ?_ | refine TryF.f ?_ | refine TryF.next rfl ?_ | refine TryF.other ?_ | refine TryA.g ?_ | refine TryA.next rfl ?_ | refine TryA.other ?_ | refine TryS.g ?_ | refine TryS.next rfl ?_ | refine TryS.other ?_ | refine TryG.g ?_ | refine TryG.next rfl ?_)
            refine ⟨⟨fun i => if i = 0 then 2 else q4, fun i j hi hj => ?_, fun _ _ _ _ => rfl, ?_⟩⟩
            · obtain rfl : j = 0 := by omega
              have : i = 0 ∨ i = 1 := by omega
              rcases this with rfl | rfl
              · exact .refl _
              · exact .int hdq
            repeat' ((conv => whnf); first | refine Ob.g ?_ | refine Cases.y ?_ | refine Cases.n ?_ | refine Idx.g rfl ?_ | refine Idx.z rfl ?_ | refine DrawOb.start ?_ | refine TryF.f ?_ | refine TryF.next rfl ?_ | refine TryF.other ?_ | refine TryA.g ?_ | refine TryA.next rfl ?_ | refine TryA.other ?_ | refine TryS.g ?_ | refine TryS.next rfl ?_ | refine TryS.other ?_ | refine TryG.g ?_ | refine TryG.next rfl ?_)
            exact ⟨(2 + 1, m + 2), [.r 4 0, .r 5 1], ⟨by omega, by omega, Lib.hid HCN.out.symm⟩, by show 62 - (2 + 1) < 62 - 2; omega, by
              refine ⟨?_, .cons rfl (blkLe_appN (c := 2) (fun i hi => by
                have : i = 0 ∨ i = 1 := by omega
                rcases this with rfl | rfl
                · exact g1.symm
                · exact g3.symm) fun _ _ => rfl) (.cons rfl (blkLe_appN (c := 2) (fun i hi => by
                have : i = 0 ∨ i = 1 := by omega
                rcases this with rfl | rfl
                · exact g2.symm
                · exact g4.symm) fun _ _ => rfl) .nil), rfl⟩
              repeat (first | exact TmE.nil | refine TmE.cons (by first | exact AvLe.refl _ | exact AvLe.int (by omega)) ?_)⟩
  · obtain rfl : p = n + 1 := by omega
    have he : m = np n := by
      have := cR_end hn0 hn
      rw [show max n 1 = n by omega] at this
      rw [k3, this]
    subst he
    clear k3 hG hO
    repeat' ((conv => whnf); first | refine Ob.g ?_ | refine Cases.y ?_ | refine Cases.n ?_ | refine Idx.g rfl ?_ | refine Idx.z rfl ?_ | refine DrawOb.start ?_ | refine TryF.f ?_ | refine TryF.next rfl ?_ | refine TryF.other ?_ | refine TryA.g ?_ | refine TryA.next rfl ?_ | refine TryA.other ?_ | refine TryS.g ?_ | refine TryS.next rfl ?_ | refine TryS.other ?_ | refine TryG.g ?_ | refine TryG.next rfl ?_)
    refine ⟨⟨_, _, rfl, rfl, ?_⟩⟩
    exact AvLe.refl _
end Go.Proofs.YtedfcemebdlgfaaGreatDoor

