/- Own texts joined: VgW, VgY, DmA, DmB. -/
import Derived.Test.YtedfcemebdlgfaaGreatDoorPkVgU
/- States in letters: lambda and the formula of the reference, square-free numbers, symbols. -/
namespace Go.Proofs.YtedfcemebdlgfaaGreatDoor
open Go Go.RowKit Go.VG HP
set_option maxHeartbeats 8000000 in
set_option maxRecDepth 20000 in
theorem rlam_sp (n f : Nat) (hn0 : 1 ≤ n) (hn : n ≤ 1000) (hf0 : 1 ≤ f) (hf : f ≤ 1000) (hfn : f ∣ n) : Sp CX 22 [int .i64 n, int .i64 f] (int .i64 (lam f n)) := by
  have hnn : (n : Int) * n ≤ 1000000 := Int.mul_le_mul (c := 1000) (d := 1000) (by omega) (by omega) (by omega) (by omega)
  have h2 := parN_two (lamF f) (n := n) (by omega)
  refine fn_spec (C := CX) ⟨86, [], []⟩ [] tysX_ok mixed Tryz.func22 rfl (by kernel_rfl) Tryz.ntmps22 (by kernel_rfl) rfl ?_
  repeat' ((conv => whnf); first | refine Ob.g ?_ | refine Cases.y ?_ | refine Cases.n ?_ | refine Idx.g rfl ?_ | refine Idx.z rfl ?_ | refine DrawOb.start ?_ | refine TryF.f ?_ | refine TryF.next rfl ?_ | refine TryF.other ?_ | refine TryA.g ?_ | refine TryA.next rfl ?_ | refine TryA.other ?_ | refine TryS.g ?_ | refine TryS.next rfl ?_ | refine TryS.other ?_ | refine TryG.g ?_ | refine TryG.next rfl ?_)
  refine ⟨⟨Nat, fun p => ⟨[(0, int .i64 n), (1, int .i64 f), (5, int .i64 (parN (lamF f) n p)), (6, int .i64 p)], [], 0⟩, fun p => 2 ≤ p ∧ p ≤ n + 2, fun p => n + 3 - p, ⟨2, [], ⟨Nat.le_refl _, by omega⟩, Ent.g⟩, ?_⟩⟩
  rintro p ⟨hp2, hpn⟩
  by_cases hd : p ≤ n
  · repeat' ((conv => whnf); first | refine Ob.g ?_ | refine Cases.y ?_ | refine Cases.n ?_ | refine Idx.g rfl ?_ | refine Idx.z rfl ?_ | refine DrawOb.start ?_ | refine TryF.f ?_ | refine TryF.next rfl ?_ | refine TryF.other ?_ | refine TryA.g ?_ | refine TryA.next rfl ?_ | refine TryA.other ?_ | refine TryS.g ?_ | refine TryS.next rfl ?_ | refine TryS.other ?_ | refine TryG.g ?_ | refine TryG.next rfl ?_)
    refine ⟨⟨Nat, fun q => ⟨[(0, int .i64 n), (1, int .i64 f), (5, int .i64 (parN (lamF f) n p)), (6, int .i64 p), (7, bool (pq p q)), (8, int .i64 q)], [], 0⟩, fun q => 2 ≤ q ∧ q ≤ p, fun q => p - q, ⟨2, [], ⟨Nat.le_refl _, hp2⟩, Ent.g⟩, ?_⟩⟩
    rintro q ⟨hq2, hqp⟩
    by_cases hq : q < p
    · cases hB : pq p q
      · have hx := pq_no hq2 hB
        repeat' ((conv => whnf); first | refine Ob.g ?_ | refine Cases.y ?_ | refine Cases.n ?_ | refine Idx.g rfl ?_ | refine Idx.z rfl ?_ | refine DrawOb.start ?_ | refine TryF.f ?_ | refine TryF.next rfl ?_ | refine TryF.other ?_ | refine TryA.g ?_ | refine TryA.next rfl ?_ | refine TryA.other ?_ | refine TryS.g ?_ | refine TryS.next rfl ?_ | refine TryS.other ?_ | refine TryG.g ?_ | refine TryG.next rfl ?_)
        exact ⟨q + 1, [], ⟨by omega, hq⟩, by show p - (q + 1) < p - q; omega, Ent.g⟩
      · have hx := pq_next hq2 hB
        repeat' ((conv => whnf); first | refine Ob.g ?_ | refine Cases.y ?_ | refine Cases.n ?_ | refine Idx.g rfl ?_ | refine Idx.z rfl ?_ | refine DrawOb.start ?_ | refine TryF.f ?_ | refine TryF.next rfl ?_ | refine TryF.other ?_ | refine TryA.g ?_ | refine TryA.next rfl ?_ | refine TryA.other ?_ | refine TryS.g ?_ | refine TryS.next rfl ?_ | refine TryS.other ?_ | refine TryG.g ?_ | refine TryG.next rfl ?_)
        exact ⟨q + 1, [], ⟨by omega, hq⟩, by show p - (q + 1) < p - q; omega, Ent.g⟩
    · obtain rfl : q = p := by omega
      have em : (n : Int).tmod q = ((n % q : Nat) : Int) := (Int.ofNat_tmod n q).symm
      by_cases hpr : Prm q ∧ q ∣ n
      · have hB : pq q q = true := (pq_prm hp2).2 hpr.1
        have hz : n % q = 0 := Nat.mod_eq_zero_of_dvd hpr.2
        have hst := parN_yes (lamF f) (n := n) (by omega) hpr.1 hpr.2
        have hbd := lam_pre f (n := n) (by omega) (ixN n (q + 1))
        have hb0 := lam_pre f (n := n) (by omega) (ixN n q)
        change 1 ≤ parN (lamF f) n (q + 1) ∧ parN (lamF f) n (q + 1) ≤ _ at hbd
        change 1 ≤ parN (lamF f) n q ∧ parN (lamF f) n q ≤ _ at hb0
        rw [hst] at hbd
        obtain ⟨m1, m2, m3, m4, m5, m6, m7⟩ := facs_bounds (show 0 < n by omega) (mem_mlt (by omega) hpr.1 hpr.2)
        have hpw : ∀ k, k ≤ mlt q n → q ^ k ≤ 1000000 := fun k hk => by
          have := Nat.pow_le_pow_right (show 0 < q by omega) hk
          omega
        have e1 : (mlt q n : Int).tdiv 2 = ((mlt q n / 2 : Nat) : Int) := (Int.ofNat_tdiv _ 2).symm
        have e2 : (mlt q n : Int).tmod 2 = ((mlt q n % 2 : Nat) : Int) := (Int.ofNat_tmod _ 2).symm
        have e3 : ((mlt q n : Int) - 1).tdiv 2 = (((mlt q n - 1) / 2 : Nat) : Int) := by rw [show (mlt q n : Int) - 1 = ((mlt q n - 1 : Nat) : Int) by omega]; exact (Int.ofNat_tdiv _ 2).symm
        have hcle : mlt q f ≤ mlt q n := by
          apply Nat.le_of_not_lt
          intro h
          have h1 := (facs_iff (by omega) _ _).1 (mem_mlt (show 0 < n by omega) hpr.1 hpr.2)
          exact h1.2.2.2 (Nat.dvd_trans (Nat.pow_dvd_pow _ h) (Nat.dvd_trans (mlt_dvd q f) hfn))
        by_cases c1 : mlt q n < 2 * mlt q f
        · have p1 := hpw (mlt q n - mlt q f) (by omega)
          obtain ⟨r, hr⟩ : ∃ r, r = q ^ (mlt q n - mlt q f) := ⟨_, rfl⟩
          have el : lamF f q (mlt q n) = 2 * (r : Int) := by unfold lamF; rw [if_pos c1, Int.natCast_mul, hr]; rfl
          rw [el] at hbd hst
          rw [← hr] at p1
          have HR := Lib.hid hr
          clear hr hpw el m6 m7
          repeat' ((conv => whnf); first | refine Ob.g ?_ | refine Cases.y ?_ | refine Cases.n ?_ | refine Idx.g rfl ?_ | refine Idx.z rfl ?_ | refine DrawOb.start ?_ | refine TryF.f ?_ | refine TryF.next rfl ?_ | refine TryF.other ?_ | refine TryA.g ?_ | refine TryA.next rfl ?_ | refine TryA.other ?_ | refine TryS.g ?_ | refine TryS.next rfl ?_ | refine TryS.other ?_ | refine TryG.g ?_ | refine TryG.next rfl ?_ | refine Sp.g (rexp_sp n q (by omega) (by omega) (by omega) (by omega)) ?_ | refine Sp.g (rexp_sp f q (by omega) (by omega) (by omega) (by omega)) ?_ | refine Sp.call (rpow_sp q (mlt q n - mlt q f) r HR (by omega) (by omega) (by omega) (by assumption)) (.cons (.refl _) (.cons (AvLe.int (by omega)) .nil)) rfl (AvLe.refl _) ?_)
          exact ⟨q + 1, [], ⟨by omega, by omega⟩, by show n + 3 - (q + 1) < n + 3 - q; omega, Ent.g⟩
        · by_cases c2 : mlt q n % 2 = 0
          · have p1 := hpw (mlt q n / 2) (by omega)
            have p2 := hpw (mlt q n / 2 - 1) (by omega)
            have hpe : 1 ≤ mlt q n / 2 := by omega
            obtain ⟨r, hr⟩ : ∃ r, r = q ^ (mlt q n / 2) := ⟨_, rfl⟩
            obtain ⟨s, hs⟩ : ∃ s, s = q ^ (mlt q n / 2 - 1) := ⟨_, rfl⟩
            have el : lamF f q (mlt q n) = (r : Int) + (s : Int) := by unfold lamF; rw [if_neg c1, if_pos c2, Int.natCast_add, hr, hs]
            rw [el] at hbd hst
            rw [← hr] at p1
            rw [← hs] at p2
            have HR := Lib.hid hr
            have HS := Lib.hid hs
            clear hr hs hpw el m6 m7
            repeat' ((conv => whnf); first | refine Ob.g ?_ | refine Cases.y ?_ | refine Cases.n ?_ | refine Idx.g rfl ?_ | refine Idx.z rfl ?_ | refine DrawOb.start ?_ | refine TryF.f ?_ | refine TryF.next rfl ?_ | refine TryF.other ?_ | refine TryA.g ?_ | refine TryA.next rfl ?_ | refine TryA.other ?_ | refine TryS.g ?_ | refine TryS.next rfl ?_ | refine TryS.other ?_ | refine TryG.g ?_ | refine TryG.next rfl ?_ | refine Sp.g (rexp_sp n q (by omega) (by omega) (by omega) (by omega)) ?_ | refine Sp.g (rexp_sp f q (by omega) (by omega) (by omega) (by omega)) ?_ | refine Sp.call (rpow_sp q (mlt q n / 2) r HR (by omega) (by omega) (by omega) (by assumption)) (.cons (.refl _) (.cons (AvLe.int (by first | assumption | omega)) .nil)) rfl (AvLe.refl _) ?_ | refine Sp.call (rpow_sp q (mlt q n / 2 - 1) s HS (by omega) (by omega) (by omega) (by assumption)) (.cons (.refl _) (.cons (AvLe.int (by omega)) .nil)) rfl (AvLe.refl _) ?_)
            exact ⟨q + 1, [], ⟨by omega, by omega⟩, by show n + 3 - (q + 1) < n + 3 - q; omega, Ent.g⟩
          · have p1 := hpw ((mlt q n - 1) / 2) (by omega)
            obtain ⟨r, hr⟩ : ∃ r, r = q ^ ((mlt q n - 1) / 2) := ⟨_, rfl⟩
            have el : lamF f q (mlt q n) = 2 * (r : Int) := by unfold lamF; rw [if_neg c1, if_neg c2, Int.natCast_mul, hr]; rfl
            rw [el] at hbd hst
            rw [← hr] at p1
            have HR := Lib.hid hr
            clear hr hpw el m6 m7
            repeat' ((conv => whnf); first | refine Ob.g ?_ | refine Cases.y ?_ | refine Cases.n ?_ | refine Idx.g rfl ?_ | refine Idx.z rfl ?_ | refine DrawOb.start ?_ | refine TryF.f ?_ | refine TryF.next rfl ?_ | refine TryF.other ?_ | refine TryA.g ?_ | refine TryA.next rfl ?_ | refine TryA.other ?_ | refine TryS.g ?_ | refine TryS.next rfl ?_ | refine TryS.other ?_ | refine TryG.g ?_ | refine TryG.next rfl ?_ | refine Sp.g (rexp_sp n q (by omega) (by omega) (by omega) (by omega)) ?_ | refine Sp.g (rexp_sp f q (by omega) (by omega) (by omega) (by omega)) ?_ | refine Sp.call (rpow_sp q ((mlt q n - 1) / 2) r HR (by omega) (by omega) (by omega) (by assumption)) (.cons (.refl _) (.cons (AvLe.int (by first | assumption | omega)) .nil)) rfl (AvLe.refl _) ?_)
            exact ⟨q + 1, [], ⟨by omega, by omega⟩, by show n + 3 - (q + 1) < n + 3 - q; omega, Ent.g⟩
      · have hs := parN_no (lamF f) (n := n) (by omega) hpr
        cases hB : pq q q
        · repeat' ((conv => whnf); first | refine Ob.g ?_ | refine Cases.y ?_ | refine Cases.n ?_ | refine Idx.g rfl ?_ | refine Idx.z rfl ?_ | refine DrawOb.start ?_ | refine TryF.f ?_ | refine TryF.next rfl ?_ | refine TryF.other ?_ | refine TryA.g ?_ | refine TryA.next rfl ?_ | refine TryA.other ?_ | refine TryS.g ?_ | refine TryS.next rfl ?_ | refine TryS.other ?_ | refine TryG.g ?_ | refine TryG.next rfl ?_)
          exact ⟨q + 1, [], ⟨by omega, by omega⟩, by show n + 3 - (q + 1) < n + 3 - q; omega, Ent.g⟩
        · have hz : n % q ≠ 0 := fun h => hpr ⟨(pq_prm hp2).1 hB, Nat.dvd_of_mod_eq_zero h⟩
          repeat' ((conv => whnf); first | refine Ob.g ?_ | refine Cases.y ?_ | refine Cases.n ?_ | refine Idx.g rfl ?_ | refine Idx.z rfl ?_ | refine DrawOb.start ?_ | refine TryF.f ?_ | refine TryF.next rfl ?_ | refine TryF.other ?_ | refine TryA.g ?_ | refine TryA.next rfl ?_ | refine TryA.other ?_ | refine TryS.g ?_ | refine TryS.next rfl ?_ | refine TryS.other ?_ | refine TryG.g ?_ | refine TryG.next rfl ?_)
          exact ⟨q + 1, [], ⟨by omega, by omega⟩, by show n + 3 - (q + 1) < n + 3 - q; omega, Ent.g⟩
  · have he := parN_end (lamF f) (n := n) (k := p) (by omega) (by omega)
    repeat' ((conv => whnf); first | refine Ob.g ?_ | refine Cases.y ?_ | refine Cases.n ?_ | refine Idx.g rfl ?_ | refine Idx.z rfl ?_ | refine DrawOb.start ?_ | refine TryF.f ?_ | refine TryF.next rfl ?_ | refine TryF.other ?_ | refine TryA.g ?_ | refine TryA.next rfl ?_ | refine TryA.other ?_ | refine TryS.g ?_ | refine TryS.next rfl ?_ | refine TryS.other ?_ | refine TryG.g ?_ | refine TryG.next rfl ?_)
    refine ⟨⟨_, _, rfl, rfl, AvLe.int ?_⟩⟩
    exact he
end Go.Proofs.YtedfcemebdlgfaaGreatDoor

/- States in letters: symbols, the formula, the cusp forms. -/
namespace Go.Proofs.YtedfcemebdlgfaaGreatDoor
open Go Go.RowKit Go.VG HP
def sqN (p r : Nat) : Bool := (List.range p).any fun x => x * x % p == r
theorem sq_all : allB 121 (fun p => !prmC p || p == 2 || allB p fun r => r == 0 || (if sqN p r then r ^ ((p - 1) / 2) % p == 1 else r ^ ((p - 1) / 2) % p == p - 1)) = true := by decide +kernel
def sqB (d : Int) (p : Nat) : Bool := (List.range (p - 1)).any fun x => decide ((((x + 1 : Nat) : Int) * ((x + 1 : Nat) : Int) - d) % p = 0)
def symV (d : Int) (p : Nat) : Int := if d.tmod p = 0 then 0 else if p = 2 then (if d % 8 = 1 ∨ d % 8 = 7 then 1 else -1) else if sqB d p then 1 else -1
theorem sqB_yes {d : Int} {p x : Nat} (h1 : 1 ≤ x) (h2 : x < p) (h : ((x : Int) * x - d) % p = 0) : sqB d p = true := by
  unfold sqB
  rw [List.any_eq_true]
  refine ⟨x - 1, List.mem_range.2 (by omega), ?_⟩
  rw [show x - 1 + 1 = x by omega]
  exact decide_eq_true h
theorem sqB_no {d : Int} {p : Nat} (h : ∀ x : Nat, 1 ≤ x → x < p → ((x : Int) * x - d) % p ≠ 0) : sqB d p = false := by
  unfold sqB
  rw [List.any_eq_false]
  intro x hx
  have := h (x + 1) (by omega) (by have := List.mem_range.1 hx; omega)
  simpa using this
theorem symV_kr {d : Int} {p : Nat} (hp : Prm p) (h120 : p ≤ 120) : symV d p = kr d p := by
  have h2 := hp.two_le
  have e0 : d.tmod p = 0 ↔ d % p = 0 := by
    constructor
    · intro h; exact Int.emod_eq_zero_of_dvd (Int.dvd_of_tmod_eq_zero h)
    · intro h; exact Int.tmod_eq_zero_of_dvd (Int.dvd_of_emod_eq_zero h)
  unfold symV kr
  by_cases hp2 : p = 2
  · subst hp2
    rw [if_pos rfl, if_pos rfl]
    unfold two
    have e0' : d.tmod (2 : Nat) = 0 ↔ d % 2 = 0 := e0
    by_cases hz : d % 2 = 0
    · rw [if_pos (e0'.2 hz), if_neg (by omega), if_neg (by omega)]
    · rw [if_neg fun h => hz (e0'.1 h)]
      by_cases h17 : d % 8 = 1 ∨ d % 8 = 7
      · rw [if_pos h17, if_pos h17]
      · rw [if_neg h17, if_neg h17, if_pos (by omega)]
  · rw [if_neg hp2, if_neg hp2]
    by_cases hz : d % p = 0
    · rw [if_pos (e0.2 hz), leg_zero hp hp2 (Int.dvd_of_emod_eq_zero hz)]
    · rw [if_neg fun h => hz (e0.1 h)]
      have hA := allB_at sq_all (show p < 121 by omega)
      rw [prm_prmC hp] at hA
      simp only [Bool.not_true, Bool.false_or, Bool.or_eq_true, beq_iff_eq] at hA
      have hA := hA.resolve_left hp2
      have hlt := Int.emod_lt_of_pos d (show (0 : Int) < p by omega)
      have hnn := Int.emod_nonneg d (show (p : Int) ≠ 0 by omega)
      obtain ⟨r, hr⟩ : ∃ r : Nat, (r : Int) = d % p := ⟨(d % p).toNat, by omega⟩
      have hR := allB_at hA (show r < p by omega)
      simp only [Bool.or_eq_true, beq_iff_eq] at hR
      have hR := hR.resolve_left (by omega)
      have hleg : leg d p = leg (r : Int) p := leg_congr hp hp2 (by rw [hr]; exact ⟨d / p, by have := Int.emod_add_mul_ediv d p; omega⟩)
      have ecast : ((r : Int) ^ ((p - 1) / 2)) % p = ((r ^ ((p - 1) / 2) % p : Nat) : Int) := by push_cast; rfl
      rw [hleg]
      unfold leg
      rw [ecast]
      have hiff : sqB d p = sqN p r := by
        rw [Bool.eq_iff_iff]
        have key : ∀ x : Nat, ((x : Int) * x - d) % p = 0 ↔ x * x % p = r := fun x => by
          have e1 : ((x * x % p : Nat) : Int) = ((x : Int) * x) % p := by push_cast; rfl
          constructor
          · intro h
            have := Int.emod_emod_of_dvd
            have h3 : ((x : Int) * x) % p = d % p := Int.emod_eq_emod_iff_emod_sub_eq_zero.2 h
            omega
          · intro h
            exact Int.emod_eq_emod_iff_emod_sub_eq_zero.1 (by rw [← e1, h, hr])
        unfold sqB sqN
        rw [List.any_eq_true, List.any_eq_true]
        constructor
        · rintro ⟨x, hx, h⟩
          exact ⟨x + 1, List.mem_range.2 (by have := List.mem_range.1 hx; omega), beq_iff_eq.2 ((key (x + 1)).1 (of_decide_eq_true h))⟩
        · rintro ⟨x, hx, h⟩
          have h := beq_iff_eq.1 h
          have hx0 : x ≠ 0 := by
            rintro rfl
            simp at h
            omega
          exact ⟨x - 1, List.mem_range.2 (by have := List.mem_range.1 hx; omega), by rw [show x - 1 + 1 = x by omega]; exact decide_eq_true ((key x).2 h)⟩
      rw [hiff]
      split at hR
      · next hs =>
        rw [hs, if_pos rfl, beq_iff_eq.1 hR, if_neg (by omega)]
        rfl
      · next hs =>
        rw [if_neg hs, beq_iff_eq.1 hR, if_pos (by omega)]
end Go.Proofs.YtedfcemebdlgfaaGreatDoor

/- States in letters: Kronecker's symbol of the reference; the formulas. -/
namespace Go.Proofs.YtedfcemebdlgfaaGreatDoor
open Go Go.RowKit Go.VG HP
theorem jac_out {d : Int} {a p : Nat} (hp : Prm p) (h120 : p ≤ 120) (ha : 0 < a) (hd : a % p = 0) : jac d a = symV d p * jac d (a / p) := by
  have e : a = p * (a / p) := by have := Nat.div_add_mod a p; omega
  have hpos : 0 < a / p := Nat.div_pos (Nat.le_of_dvd ha (Nat.dvd_of_mod_eq_zero hd)) hp.pos
  rw [symV_kr hp h120]
  conv => lhs; rw [e]
  exact ext_prime_mul _ hp _ hpos
/-- the numbers that Psi and lambda may take -/
theorem psi_small {n : Nat} (h1 : 1 ≤ n) (h2 : n ≤ 120) : 1 ≤ psi n ∧ psi n ≤ 400 := by
  have h : allB 121 (fun n => decide (n = 0) || (decide (1 ≤ prodC psiF n) && decide (prodC psiF n ≤ 400))) = true := by decide +kernel
  have := allB_at h (show n < 121 by omega)
  simp only [Bool.or_eq_true, Bool.and_eq_true, decide_eq_true_eq] at this
  rw [psi_C h1 h2]
  exact this.resolve_left (by omega)
theorem lam_small {n f : Nat} (h1 : 1 ≤ n) (h2 : n ≤ 120) : 1 ≤ lam f n ∧ lam f n ≤ 14400 := by
  obtain ⟨a, b⟩ := lam_bd f (n := n) (by omega)
  have : (n : Int) * n ≤ 120 * 120 := Int.mul_le_mul (by omega) (by omega) (by omega) (by omega)
  omega
theorem mul_small {n k : Nat} (h1 : 1 ≤ n) (h2 : n ≤ 120) (hk : 1 ≤ k) (hk2 : k ≤ 24) : 0 ≤ ((k : Int) - 1) * psi n ∧ ((k : Int) - 1) * psi n ≤ 10000 := by
  obtain ⟨a, b⟩ := psi_small h1 h2
  refine ⟨Int.mul_nonneg (by omega) (by omega), ?_⟩
  have : ((k : Int) - 1) * psi n ≤ 23 * 400 := Int.mul_le_mul (by omega) (by omega) (by omega) (by omega)
  omega
set_option maxHeartbeats 8000000 in
set_option maxRecDepth 20000 in
theorem formula_sp (n k f : Nat) (four three : Int) (hn0 : 1 ≤ n) (hn : n ≤ 120) (hf0 : 1 ≤ f) (hf : f ≤ 120) (hfn : f ∣ n) (hk : 2 ≤ k) (hk2 : k ≤ 24) (h1 : -1000000 ≤ four) (h2 : four ≤ 1000000) (h3 : -1000000 ≤ three) (h4 : three ≤ 1000000) : Sp CX 20 [int .i64 n, int .i64 k, int .i64 f, int .i64 four, int .i64 three] (int .i64 ((dim12 n k f four three).tdiv 12)) := by
  refine fn_sp (C := CX) [] [] tysX_ok mixed Tryz.func20 rfl (by kernel_rfl) Tryz.ntmps20 rfl rfl ?_
  have hm := mul_small hn0 hn (show 1 ≤ k by omega) hk2
  have hl := lam_small (f := f) hn0 hn
  have e4 : (k : Int).tmod 4 = ((k % 4 : Nat) : Int) := (Int.ofNat_tmod k 4).symm
  have e3 : (k : Int).tmod 3 = ((k % 3 : Nat) : Int) := (Int.ofNat_tmod k 3).symm
  have hb : ∀ x : Int, -10000000 ≤ x → x ≤ 10000000 → -10000000 ≤ x.tdiv 12 ∧ x.tdiv 12 ≤ 10000000 := fun x a b => tdiv_bd a b
  repeat' ((conv => whnf); first | refine Ob.g ?_ | refine Cases.y ?_ | refine Cases.n ?_ | refine Idx.g rfl ?_ | refine Idx.z rfl ?_ | refine DrawOb.start ?_ | refine TryF.f ?_ | refine TryF.next rfl ?_ | refine TryF.other ?_ | refine TryA.g ?_ | refine TryA.next rfl ?_ | refine TryA.other ?_ | refine TryS.g ?_ | refine TryS.next rfl ?_ | refine TryS.other ?_ | refine TryG.g ?_ | refine TryG.next rfl ?_ | (refine Cases.mk (fun hc => ?_) (fun hc => ?_) <;> (try simp only [Bool.not_eq_true', Bool.not_eq_false', decide_eq_true_eq, decide_eq_false_iff_not] at hc)) | refine Sp.g (psi21_sp n (by omega) (by omega)) ?_ | refine Sp.g (rlam_sp n f (by omega) (by omega) (by omega) (by omega) hfn) ?_)
  all_goals (refine ⟨⟨_, _, rfl, rfl, AvLe.int ?_⟩⟩)
  all_goals (unfold dim12; congr 1; (repeat' split) <;> omega)
end Go.Proofs.YtedfcemebdlgfaaGreatDoor

/- States in letters: the program's dimension formula; beta; the sums of the reference. -/
namespace Go.Proofs.YtedfcemebdlgfaaGreatDoor
open Go Go.RowKit Go.VG HP
def specA (L K D : Int) : AV := .v (.agg [ix L, ix K, ix D])
set_option maxHeartbeats 8000000 in
set_option maxRecDepth 20000 in
theorem cuspm_sp (n f k : Nat) (four three : Int) (hn0 : 1 ≤ n) (hn : n ≤ 120) (hf0 : 1 ≤ f) (hf : f ≤ 120) (hfn : f ∣ n) (hk : 2 ≤ k) (hk2 : k ≤ 24) (h1 : -1000000 ≤ four) (h2 : four ≤ 1000000) (h3 : -1000000 ≤ three) (h4 : three ≤ 1000000) : Sp CX 15 [spA n f k four three] (int .i64 ((dim12 n k f four three).tdiv 12)) := by
  refine fn_sp (C := CX) [(2,0)] [] tysX_ok mixed Tryz.func15 rfl (by kernel_rfl) Tryz.ntmps15 rfl rfl ?_
  have hm := mul_small hn0 hn (show 1 ≤ k by omega) hk2
  have hl := lam_small (f := f) hn0 hn
  have e4 : (k : Int).tmod 4 = ((k % 4 : Nat) : Int) := (Int.ofNat_tmod k 4).symm
  have e3 : (k : Int).tmod 3 = ((k % 3 : Nat) : Int) := (Int.ofNat_tmod k 3).symm
  obtain ⟨ex, hex⟩ : ∃ ex : Int, ex = if (k : Int) = 2 ∧ (f : Int) = 1 then 1 else 0 := ⟨_, rfl⟩
  have hex2 : 0 ≤ ex ∧ ex ≤ 1 := by rw [hex]; split <;> omega
  have s := exc_sp n f k four three
  rw [← hex] at s
  have HEX := Lib.hid hex
  clear hex
  repeat' ((conv => whnf); first | refine Ob.g ?_ | refine Cases.y ?_ | refine Cases.n ?_ | refine Idx.g rfl ?_ | refine Idx.z rfl ?_ | refine DrawOb.start ?_ | refine TryF.f ?_ | refine TryF.next rfl ?_ | refine TryF.other ?_ | refine TryA.g ?_ | refine TryA.next rfl ?_ | refine TryA.other ?_ | refine TryS.g ?_ | refine TryS.next rfl ?_ | refine TryS.other ?_ | refine TryG.g ?_ | refine TryG.next rfl ?_ | refine Sp.g (psi_sp n (by omega) (by omega)) ?_)
  refine ⟨⟨Int, fun t => ⟨[(1, .v (.c (.loc 0 0))), (5, int .i64 t)], [(0, .st [ix n, ix f, ix k, ix four, ix three])], 1⟩, fun t => t = ((k : Int) - 1) * psi n - 6 * lam f n + 12 * ex, ?_, ?_⟩⟩
  · repeat' ((conv => whnf); first | refine Ob.g ?_ | refine Cases.y ?_ | refine Cases.n ?_ | refine Idx.g rfl ?_ | refine Idx.z rfl ?_ | refine DrawOb.start ?_ | refine TryF.f ?_ | refine TryF.next rfl ?_ | refine TryF.other ?_ | refine TryA.g ?_ | refine TryA.next rfl ?_ | refine TryA.other ?_ | refine TryS.g ?_ | refine TryS.next rfl ?_ | refine TryS.other ?_ | refine TryG.g ?_ | refine TryG.next rfl ?_ | refine Sp.g (psi_sp n (by omega) (by omega)) ?_ | refine Sp.g (lam_sp n f k four three (by omega) (by omega) (by omega) (by omega) hfn) ?_ | refine Sp.g (s) ?_)
    exact ⟨_, [], rfl, Ent.g⟩
  · intro t ht
    have hts : -1000000 ≤ t ∧ t ≤ 1000000 := by omega
    repeat' ((conv => whnf); first | refine Ob.g ?_ | refine Cases.y ?_ | refine Cases.n ?_ | refine Idx.g rfl ?_ | refine Idx.z rfl ?_ | refine DrawOb.start ?_ | refine TryF.f ?_ | refine TryF.next rfl ?_ | refine TryF.other ?_ | refine TryA.g ?_ | refine TryA.next rfl ?_ | refine TryA.other ?_ | refine TryS.g ?_ | refine TryS.next rfl ?_ | refine TryS.other ?_ | refine TryG.g ?_ | refine TryG.next rfl ?_ | (refine Cases.mk (fun hc => ?_) (fun hc => ?_) <;> (try simp only [Bool.not_eq_true', Bool.not_eq_false', decide_eq_true_eq, decide_eq_false_iff_not] at hc)))
    all_goals (refine ⟨⟨_, _, rfl, rfl, AvLe.int ?_⟩⟩)
    all_goals (unfold dim12; congr 1; have hq := HEX.out; (repeat' split) <;> omega)
theorem eis_sp (n f k : Nat) (four three : Int) (hn0 : 1 ≤ n) (hn : n ≤ 120) (hf0 : 1 ≤ f) (hf : f ≤ 120) (hfn : f ∣ n) : Sp CX 16 [spA n f k four three] (int .i64 (lam f n - if k = 2 ∧ f = 1 then 1 else 0)) := by
  refine fn_sp (C := CX) [] [] tysX_ok mixed Tryz.func16 rfl (by kernel_rfl) Tryz.ntmps16 rfl rfl ?_
  have hl := lam_small (f := f) hn0 hn
  obtain ⟨ex, hex⟩ : ∃ ex : Int, ex = if (k : Int) = 2 ∧ (f : Int) = 1 then 1 else 0 := ⟨_, rfl⟩
  have hex2 : 0 ≤ ex ∧ ex ≤ 1 := by rw [hex]; split <;> omega
  have s := exc_sp n f k four three
  rw [← hex] at s
  have HEX := Lib.hid hex
  clear hex
  repeat' ((conv => whnf); first | refine Ob.g ?_ | refine Cases.y ?_ | refine Cases.n ?_ | refine Idx.g rfl ?_ | refine Idx.z rfl ?_ | refine DrawOb.start ?_ | refine TryF.f ?_ | refine TryF.next rfl ?_ | refine TryF.other ?_ | refine TryA.g ?_ | refine TryA.next rfl ?_ | refine TryA.other ?_ | refine TryS.g ?_ | refine TryS.next rfl ?_ | refine TryS.other ?_ | refine TryG.g ?_ | refine TryG.next rfl ?_ | refine Sp.g (lam_sp n f k four three (by omega) (by omega) (by omega) (by omega) hfn) ?_ | refine Sp.g (s) ?_)
  refine ⟨⟨_, _, rfl, rfl, AvLe.int ?_⟩⟩
  have hq := HEX.out
  split <;> (split at hq <;> omega)
theorem bet_small {n : Nat} (h1 : 1 ≤ n) (h2 : n ≤ 120) (i : Nat) : -8 ≤ prodL betF ((facs n).take i) ∧ prodL betF ((facs n).take i) ≤ 8 := by
  have h : allB 121 (fun n => decide (n = 0) || (decide ((facC n).length ≤ 5) && allB 6 fun i => decide (-8 ≤ prodL betF ((facC n).take i)) && decide (prodL betF ((facC n).take i) ≤ 8))) = true := by decide +kernel
  have := allB_at h (show n < 121 by omega)
  simp only [Bool.or_eq_true, Bool.and_eq_true, decide_eq_true_eq] at this
  obtain ⟨hl, hb⟩ := this.resolve_left (by omega)
  rw [facs_C h1 h2]
  by_cases hi : i < 6
  · have := allB_at hb hi
    simp only [Bool.and_eq_true, decide_eq_true_eq] at this
    exact this
  · have := allB_at hb (show 5 < 6 by omega)
    simp only [Bool.and_eq_true, decide_eq_true_eq] at this
    rw [List.take_of_length_le (by omega)] at this ⊢
    exact this
theorem bet_zero {l : List (Nat × Nat)} {i p e : Nat} (h : l[i]? = some (p, e)) (he : 2 < e) : prodL betF l = 0 := by
  have h2 := prodL_next betF h
  have h3 : betF p e = 0 := by unfold betF; rw [if_neg (by omega), if_neg (by omega)]
  rw [h3, Int.mul_zero] at h2
  conv => lhs; rw [← List.take_append_drop (i + 1) l]
  rw [prodL_append, h2, Int.zero_mul]
set_option maxHeartbeats 4000000 in
theorem beta_sp (n : Nat) (hn0 : 1 ≤ n) (hn : n ≤ 120) : Sp CX 26 [int .i64 n] (int .i64 (bet n)) := by
  obtain ⟨Z, len, hZ, hlen⟩ := zOf (facs n) (0, 0)
  have hll : len ≤ 1000 := by have := facs_len (n := n) (by omega); omega
  refine fn_sp (C := CX) [] [] tysX_ok mixed Tryz.func26 rfl (by kernel_rfl) Tryz.ntmps26 rfl rfl ?_
  repeat' ((conv => whnf); first | refine Ob.g ?_ | refine Cases.y ?_ | refine Cases.n ?_ | refine Idx.g rfl ?_ | refine Idx.z rfl ?_ | refine DrawOb.start ?_ | refine TryF.f ?_ | refine TryF.next rfl ?_ | refine TryF.other ?_ | refine TryA.g ?_ | refine TryA.next rfl ?_ | refine TryA.other ?_ | refine TryS.g ?_ | refine TryS.next rfl ?_ | refine TryS.other ?_ | refine TryG.g ?_ | refine TryG.next rfl ?_ | refine Sp.g (factor_sp n Z len (fun i p e => hZ i (p, e)) hlen (by omega) (by omega)) ?_)
  refine ⟨⟨Nat, fun i => ⟨[(3, int .i64 (prodL betF ((facs n).take i))), (13, .v (.c (.sl 2 (Nat × Nat) ppL Z len))), (14, int .i64 len), (15, int .i64 i)], [], 1⟩, fun i => i ≤ len, fun i => len - i, ⟨0, [], Nat.zero_le _, Ent.g⟩, ?_⟩⟩
  intro i hi
  by_cases hd : i < len
  · have hfi : (facs n)[i]? = some ((Z i).1, (Z i).2) := by
      have h := List.getElem?_eq_getElem (l := facs n) (i := i) (by omega)
      rw [h, hZ i _ h]
    have hst := prodL_next betF hfi
    have b0 := bet_small hn0 hn i
    have he := (facs_bounds (show 0 < n by omega) (List.mem_of_getElem? hfi)).2.2.1
    by_cases c1 : (Z i).2 = 1
    · have el : betF (Z i).1 (Z i).2 = -2 := by unfold betF; rw [if_pos c1]
      rw [el] at hst
      repeat' ((conv => whnf); first | refine Ob.g ?_ | refine Cases.y ?_ | refine Cases.n ?_ | refine Idx.g rfl ?_ | refine Idx.z rfl ?_ | refine DrawOb.start ?_ | refine TryF.f ?_ | refine TryF.next rfl ?_ | refine TryF.other ?_ | refine TryA.g ?_ | refine TryA.next rfl ?_ | refine TryA.other ?_ | refine TryS.g ?_ | refine TryS.next rfl ?_ | refine TryS.other ?_ | refine TryG.g ?_ | refine TryG.next rfl ?_)
      exact ⟨i + 1, [], hd, by show len - (i + 1) < len - i; omega, Ent.g⟩
    · by_cases c2 : (Z i).2 = 2
      · have el : betF (Z i).1 (Z i).2 = 1 := by unfold betF; rw [if_neg c1, if_pos c2]
        rw [el, Int.mul_one] at hst
        repeat' ((conv => whnf); first | refine Ob.g ?_ | refine Cases.y ?_ | refine Cases.n ?_ | refine Idx.g rfl ?_ | refine Idx.z rfl ?_ | refine DrawOb.start ?_ | refine TryF.f ?_ | refine TryF.next rfl ?_ | refine TryF.other ?_ | refine TryA.g ?_ | refine TryA.next rfl ?_ | refine TryA.other ?_ | refine TryS.g ?_ | refine TryS.next rfl ?_ | refine TryS.other ?_ | refine TryG.g ?_ | refine TryG.next rfl ?_)
        exact ⟨i + 1, [], hd, by show len - (i + 1) < len - i; omega, Ent.g⟩
      · have hz := bet_zero hfi (by omega)
        repeat' ((conv => whnf); first | refine Ob.g ?_ | refine Cases.y ?_ | refine Cases.n ?_ | refine Idx.g rfl ?_ | refine Idx.z rfl ?_ | refine DrawOb.start ?_ | refine TryF.f ?_ | refine TryF.next rfl ?_ | refine TryF.other ?_ | refine TryA.g ?_ | refine TryA.next rfl ?_ | refine TryA.other ?_ | refine TryS.g ?_ | refine TryS.next rfl ?_ | refine TryS.other ?_ | refine TryG.g ?_ | refine TryG.next rfl ?_)
        refine ⟨⟨_, _, rfl, rfl, AvLe.int ?_⟩⟩
        exact hz.symm
  · obtain rfl : i = len := by omega
    repeat' ((conv => whnf); first | refine Ob.g ?_ | refine Cases.y ?_ | refine Cases.n ?_ | refine Idx.g rfl ?_ | refine Idx.z rfl ?_ | refine DrawOb.start ?_ | refine TryF.f ?_ | refine TryF.next rfl ?_ | refine TryF.other ?_ | refine TryA.g ?_ | refine TryA.next rfl ?_ | refine TryA.other ?_ | refine TryS.g ?_ | refine TryS.next rfl ?_ | refine TryS.other ?_ | refine TryG.g ?_ | refine TryG.next rfl ?_)
    refine ⟨⟨_, _, rfl, rfl, AvLe.int ?_⟩⟩
    rw [hlen, List.take_length]
    rfl
end Go.Proofs.YtedfcemebdlgfaaGreatDoor

