/- Own texts joined: DiV, DiW, DiX, DiY, DiN, DiO. -/
import Derived.Test.YtedfcemebdlgfaaGreatDoorPkDiR
import Derived.Test.YtedfcemebdlgfaaGreatDoorPkDiJ
/- Dirichlet characters: the reference's roots of unity, checks, values, walked. -/
namespace HP
/-- a product of roots of unity and zeros -/
def tms (p q : Bool × Nat × Nat) : Bool × Nat × Nat := if p.1 = true ∨ q.1 = true then (true, 0, 0) else (false, rt (p.2.1 * q.2.2 + q.2.1 * p.2.2) (p.2.2 * q.2.2))
/-- the first part whose digit is not the last -/
def incK (n c : Nat) : Nat := ((List.range (np n)).find? fun i => dgt n c i != (prtAt n i).o - 1).getD (np n)
theorem nxt_chk : allB 61 (fun n => Nat.beq n 0 || allB (dn n (np n) - 1) fun c => Nat.blt (incK n c) (np n) && (List.range (np n)).all fun j =>
    bif Nat.blt j (incK n c) then dgt n c j == (prtAt n j).o - 1 && dgt n (c + 1) j == 0 else bif Nat.beq j (incK n c) then dgt n c j != (prtAt n j).o - 1 && dgt n (c + 1) j == dgt n c j + 1 else dgt n (c + 1) j == dgt n c j) = true := by decide +kernel
theorem back_chk : allB 61 (fun n => Nat.beq n 0 || allB (dn n (np n)) fun c => cOf n (yA n c (np n)) (np n) == c && (List.range (np n)).all fun i => Nat.blt (dgt n c i) (prtAt n i).o) = true := by decide +kernel
theorem allB_pos {n m : Nat} {f : Nat → Bool} (h : allB m (fun n => Nat.beq n 0 || f n) = true) (h1 : 1 ≤ n) (h2 : n < m) : f n = true := by
  have := allB_at h h2
  rwa [show Nat.beq n 0 = false from by
    rw [Bool.eq_false_iff]; intro h; have := Nat.eq_of_beq_eq_true h; omega, Bool.false_or] at this
structure NxtOk (n c k : Nat) : Prop where
  lt : k < np n
  lo : ∀ j, j < k → dgt n c j = (prtAt n j).o - 1 ∧ dgt n (c + 1) j = 0
  at' : dgt n c k ≠ (prtAt n k).o - 1 ∧ dgt n (c + 1) k = dgt n c k + 1
  hi : ∀ j, k < j → j < np n → dgt n (c + 1) j = dgt n c j
theorem nxt_at {n c : Nat} (h1 : 1 ≤ n) (h2 : n ≤ 60) (hc : c + 1 < dn n (np n)) : NxtOk n c (incK n c) := by
  have h := allB_at (allB_pos nxt_chk h1 (show n < 61 by omega)) (show c < dn n (np n) - 1 by omega)
  rw [Bool.and_eq_true] at h
  have hlt := Nat.le_of_ble_eq_true h.1
  have hj : ∀ j, j < np n → _ := fun j hj => List.all_eq_true.1 h.2 j (List.mem_range.2 hj)
  have bt : ∀ {a b : Nat}, a < b → Nat.blt a b = true := fun {a b} h => by rw [Nat.blt_eq]; exact h
  have bf : ∀ {a b : Nat}, ¬ a < b → Nat.blt a b = false := fun {a b} h => by
    rw [Bool.eq_false_iff]; intro x; rw [Nat.blt_eq] at x; exact h x
  refine ⟨hlt, fun j h3 => ?_, ?_, fun j h3 h4 => ?_⟩
  · have := hj j (by omega)
    rw [bt h3] at this
    simpa using this
  · have := hj _ hlt
    rw [bf (Nat.lt_irrefl _), Nat.beq_refl] at this
    simpa using this
  · have := hj j h4
    rw [bf (show ¬ j < incK n c by omega), show Nat.beq j (incK n c) = false from by
      rw [Bool.eq_false_iff]; intro h; have := Nat.eq_of_beq_eq_true h; omega] at this
    simpa using this
theorem dgt_lt {n c i : Nat} (h1 : 1 ≤ n) (h2 : n ≤ 60) (hc : c < dn n (np n)) (hi : i < np n) : dgt n c i < (prtAt n i).o := by
  have h := allB_at (allB_pos back_chk h1 (show n < 61 by omega)) hc
  rw [Bool.and_eq_true] at h
  have := List.all_eq_true.1 h.2 i (List.mem_range.2 hi)
  rwa [Nat.blt_eq] at this
theorem cOf_yA {n c : Nat} (h1 : 1 ≤ n) (h2 : n ≤ 60) (hc : c < dn n (np n)) : cOf n (yA n c (np n)) (np n) = c := by
  have h := allB_at (allB_pos back_chk h1 (show n < 61 by omega)) hc
  rw [Bool.and_eq_true] at h
  simpa using h.1
structure COk (n a : Nat) : Prop where
  lt : cOf n a (np n) < dn n (np n)
  y : yA n (cOf n a (np n)) (np n) = a
  d : ∀ i, i < np n → dgt n (cOf n a (np n)) i = lg (prtAt n i) (a % (prtAt n i).q)
theorem c_at {n a : Nat} (h1 : 1 ≤ n) (h2 : n ≤ 60) (ha : a < n) (hg : Nat.gcd a n = 1) : COk n a := by
  have h := allB_at (allB_pos c_chk h1 (show n < 61 by omega)) ha
  rw [hg] at h
  simp only [bne_self_eq_false, Bool.false_or, Bool.and_eq_true, beq_iff_eq] at h
  obtain ⟨⟨a1, a2⟩, a3⟩ := h
  refine ⟨by rwa [Nat.blt_eq] at a1, a2, fun i hi => ?_⟩
  have := List.all_eq_true.1 a3 i (List.mem_range.2 hi)
  simpa using this
theorem rs_nat {a : Int} {n : Nat} (hn : 0 < n) : ((rs a n : Nat) : Int) = a % n := by
  have := Int.emod_nonneg a (show (n : Int) ≠ 0 by omega)
  unfold rs; omega
theorem rs_rs {a : Int} {n q : Nat} (hn : 0 < n) (hq : 0 < q) (h : q ∣ n) : rs a n % q = rs a q := by
  have e : ((rs a n % q : Nat) : Int) = ((rs a q : Nat) : Int) := by
    rw [Int.natCast_emod, rs_nat hn, rs_nat hq]
    exact Int.emod_emod_of_dvd a (Int.natCast_dvd_natCast.2 h)
  exact Int.ofNat.inj e
theorem sm_congr {n : Nat} {L M E : Nat → Nat} : ∀ {i : Nat}, (∀ j, j < i → L j = M j) → sm n L E i = sm n M E i
  | 0, _ => rfl
  | i + 1, h => by rw [sm, sm, sm_congr fun j hj => h j (by omega), h i (by omega)]
theorem mulP_lt {n g y : Nat} (hn : 0 < n) (hy : y < n) : ∀ k, mulP n g y k < n
  | 0 => hy
  | _ + 1 => Nat.mod_lt _ hn
theorem yA_lt {n c : Nat} (hn : 0 < n) : ∀ i, yA n c i < n
  | 0 => Nat.mod_lt _ hn
  | i + 1 => mulP_lt hn (yA_lt hn i) _
end HP
namespace Go.Proofs.YtedfcemebdlgfaaGreatDoor
open Go Go.RowKit Go.VG HP
theorem root_sp (N D : Nat) (hD : 1 ≤ D) (hD2 : D ≤ 1000000) (hN : N ≤ 1000000000) : Sp CX 41 [int .i64 N, int .i64 D] (.v (ruT (false, rt N D))) := by
  have s1 := mod_sp (N : Int) (D : Int) (by omega) (by omega) (by omega) (by omega)
  have em : (N : Int) % (D : Int) = ((N % D : Nat) : Int) := (Int.natCast_emod N D).symm
  rw [em] at s1
  have hlt := Nat.mod_lt N (show 0 < D by omega)
  have e1 : (rt N D).1 = N % D / Nat.gcd (N % D) D := rfl
  have e2 : (rt N D).2 = D / Nat.gcd (N % D) D := rfl
  obtain ⟨u, hu⟩ : ∃ u, u = rt N D := ⟨_, rfl⟩
  rw [← hu] at e1 e2 ⊢
  clear hu em
  generalize N % D = M at *
  have s2 := gcd18_sp (M : Int) (D : Int) (by omega) (by omega) (by omega) (by omega)
  rw [Int.gcd_natCast_natCast] at s2
  have hg : 0 < Nat.gcd M D := Nat.gcd_pos_of_pos_right _ (by omega)
  have hgl : Nat.gcd M D ≤ D := Nat.le_of_dvd (by omega) (Nat.gcd_dvd_right _ _)
  generalize Nat.gcd M D = g at *
  have t1 : ((M : Nat) : Int).tdiv (g : Nat) = ((u.1 : Nat) : Int) := by rw [e1]; exact (Int.ofNat_tdiv _ _).symm
  have t2 : ((D : Nat) : Int).tdiv (g : Nat) = ((u.2 : Nat) : Int) := by rw [e2]; exact (Int.ofNat_tdiv _ _).symm
  clear e1 e2
  refine fn_sp (C := CX) [] [] tysX_ok mixed Tryz.func41 rfl (by kernel_rfl) Tryz.ntmps41 rfl rfl ?_
  repeat' ((conv => whnf); first | refine Ob.g ?_ | refine Cases.y ?_ | refine Cases.n ?_ | refine Idx.g rfl ?_ | refine Idx.z rfl ?_ | refine DrawOb.start ?_ | refine TryF.f ?_ | refine TryF.next rfl ?_ | refine TryF.other ?_ | refine TryA.g ?_ | refine TryA.next rfl ?_ | refine TryA.other ?_ | refine TryS.g ?_ | refine TryS.next rfl ?_ | refine TryS.other ?_ | refine TryG.g ?_ | refine TryG.next rfl ?_ | refine Sp.g (s1) ?_ | refine Sp.g (s2) ?_)
  refine ⟨⟨_, _, rfl, rfl, ?_⟩⟩
  exact .agg (.cons (.refl _) (.cons (.int t1) (.cons (.int t2) .nil)))
theorem times_sp (p q : Bool × Nat × Nat) (h : p.1 = true ∨ q.1 = true ∨ (1 ≤ p.2.2 ∧ 1 ≤ q.2.2)) (h1 : p.2.1 ≤ 1000) (h2 : p.2.2 ≤ 1000) (h3 : q.2.1 ≤ 1000) (h4 : q.2.2 ≤ 1000) : Sp CX 42 [.v (ruT p), .v (ruT q)] (.v (ruT (tms p q))) := by
  obtain ⟨z, a, b⟩ := p
  obtain ⟨y, c, d⟩ := q
  simp only at h h1 h2 h3 h4
  unfold tms
  simp only
  cases z with
  | true =>
    rw [if_pos (.inl rfl)]
    refine fn_sp (C := CX) [] [] tysX_ok mixed Tryz.func42 rfl (by kernel_rfl) Tryz.ntmps42 rfl rfl ?_
    repeat' ((conv => whnf); first | refine Ob.g ?_ | refine Cases.y ?_ | refine Cases.n ?_ | refine Idx.g rfl ?_ | refine Idx.z rfl ?_ | refine DrawOb.start ?_ | refine TryF.f ?_ | refine TryF.next rfl ?_ | refine TryF.other ?_ | refine TryA.g ?_ | refine TryA.next rfl ?_ | refine TryA.other ?_ | refine TryS.g ?_ | refine TryS.next rfl ?_ | refine TryS.other ?_ | refine TryG.g ?_ | refine TryG.next rfl ?_)
    refine ⟨⟨_, _, rfl, rfl, ?_⟩⟩
    exact AvLe.refl _
  | false =>
    cases y with
    | true =>
      rw [if_pos (.inr rfl)]
      refine fn_sp (C := CX) [] [] tysX_ok mixed Tryz.func42 rfl (by kernel_rfl) Tryz.ntmps42 rfl rfl ?_
      repeat' ((conv => whnf); first | refine Ob.g ?_ | refine Cases.y ?_ | refine Cases.n ?_ | refine Idx.g rfl ?_ | refine Idx.z rfl ?_ | refine DrawOb.start ?_ | refine TryF.f ?_ | refine TryF.next rfl ?_ | refine TryF.other ?_ | refine TryA.g ?_ | refine TryA.next rfl ?_ | refine TryA.other ?_ | refine TryS.g ?_ | refine TryS.next rfl ?_ | refine TryS.other ?_ | refine TryG.g ?_ | refine TryG.next rfl ?_)
      refine ⟨⟨_, _, rfl, rfl, ?_⟩⟩
      exact AvLe.refl _
    | false =>
      rw [if_neg (by simp)]
      have hbd : 1 ≤ b ∧ 1 ≤ d := by simpa using h
      have m1 : a * d ≤ 1000 * 1000 := Nat.mul_le_mul h1 h4
      have m2 : c * b ≤ 1000 * 1000 := Nat.mul_le_mul h3 h2
      have m3 : b * d ≤ 1000 * 1000 := Nat.mul_le_mul h2 h4
      have m4 : 1 * 1 ≤ b * d := Nat.mul_le_mul hbd.1 hbd.2
      have i1 : (a : Int) * d = ((a * d : Nat) : Int) := by push_cast; rfl
      have i2 : (c : Int) * b = ((c * b : Nat) : Int) := by push_cast; rfl
      have i3 : (b : Int) * d = ((b * d : Nat) : Int) := by push_cast; rfl
      have i4 : (a : Int) * d + (c : Int) * b = ((a * d + c * b : Nat) : Int) := by push_cast; rfl
      have s1 := root_sp (a * d + c * b) (b * d) (by omega) (by omega) (by omega)
      generalize rt (a * d + c * b) (b * d) = u at *
      refine fn_sp (C := CX) [] [] tysX_ok mixed Tryz.func42 rfl (by kernel_rfl) Tryz.ntmps42 rfl rfl ?_
      repeat' ((conv => whnf); first | refine Ob.g ?_ | refine Cases.y ?_ | refine Cases.n ?_ | refine Idx.g rfl ?_ | refine Idx.z rfl ?_ | refine DrawOb.start ?_ | refine TryF.f ?_ | refine TryF.next rfl ?_ | refine TryF.other ?_ | refine TryA.g ?_ | refine TryA.next rfl ?_ | refine TryA.other ?_ | refine TryS.g ?_ | refine TryS.next rfl ?_ | refine TryS.other ?_ | refine TryG.g ?_ | refine TryG.next rfl ?_ | refine Sp.call (s1) (.cons (.int i4) (.cons (.int i3) .nil)) rfl (AvLe.refl _) ?_)
      refine ⟨⟨_, _, rfl, rfl, ?_⟩⟩
      exact AvLe.refl _
set_option maxHeartbeats 4000000 in
theorem rchk_sp (N : Int) (X : Nat → Int) (l : Nat) : Sp CX 17 [chA N X l] (int .i64 (chkE N X l)) := by
  have s0 := rmod28_sp N
  by_cases h1 : N < 1 ∨ 60 < N
  · have e : chkE N X l = 2 := by unfold chkE; rw [if_pos h1]
    rw [if_pos h1] at s0
    rw [e]
    refine fn_sp (C := CX) [] [] tysX_ok mixed Tryz.func17 rfl (by kernel_rfl) Tryz.ntmps17 rfl rfl ?_
    repeat' ((conv => whnf); first | refine Ob.g ?_ | refine Cases.y ?_ | refine Cases.n ?_ | refine Idx.g rfl ?_ | refine Idx.z rfl ?_ | refine DrawOb.start ?_ | refine TryF.f ?_ | refine TryF.next rfl ?_ | refine TryF.other ?_ | refine TryA.g ?_ | refine TryA.next rfl ?_ | refine TryA.other ?_ | refine TryS.g ?_ | refine TryS.next rfl ?_ | refine TryS.other ?_ | refine TryG.g ?_ | refine TryG.next rfl ?_ | refine Sp.g (s0) ?_)
    refine ⟨⟨_, _, rfl, rfl, ?_⟩⟩
    exact AvLe.refl _
  · rw [if_neg h1] at s0
    obtain ⟨n, rfl⟩ : ∃ n : Nat, N = n := ⟨N.toNat, by omega⟩
    have hn0 : 1 ≤ n := by omega
    have hn : n ≤ 60 := by omega
    obtain ⟨G, hG⟩ : ∃ G : Nat → Nat, ∀ i, G i = genT n (prtAt n i) := ⟨_, fun _ => rfl⟩
    obtain ⟨O, hO⟩ : ∃ O : Nat → Nat, ∀ i, O i = (prtAt n i).o := ⟨_, fun _ => rfl⟩
    have s1 := rgens28_sp n hn0 hn G O (fun i _ => hG i) (fun i _ => hO i)
    have hl := np_le hn
    by_cases h2 : np n = l
    · subst h2
      obtain ⟨e, he⟩ : ∃ e, e = chkE n X (np n) := ⟨_, rfl⟩
      have he' := he
      unfold chkE at he'
      rw [if_neg h1, Int.toNat_natCast, if_neg (fun h => h rfl)] at he'
      rw [← he]
      have HE := Lib.hid he'
      clear he he' h1
      refine fn_sp (C := CX) [] [] tysX_ok mixed Tryz.func17 rfl (by kernel_rfl) Tryz.ntmps17 rfl rfl ?_
      repeat' ((conv => whnf); first | refine Ob.g ?_ | refine Cases.y ?_ | refine Cases.n ?_ | refine Idx.g rfl ?_ | refine Idx.z rfl ?_ | refine DrawOb.start ?_ | refine TryF.f ?_ | refine TryF.next rfl ?_ | refine TryF.other ?_ | refine TryA.g ?_ | refine TryA.next rfl ?_ | refine TryA.other ?_ | refine TryS.g ?_ | refine TryS.next rfl ?_ | refine TryS.other ?_ | refine TryG.g ?_ | refine TryG.next rfl ?_ | refine Sp.g (s0) ?_ | refine Sp.g (s1) ?_)
      refine ⟨⟨Nat, fun i => ⟨[(1, .v (.c (.loc 0 0))), (5, .v (nsA O (np n))), (6, int .i64 i)], [(0, .st [ix n, xsL X (np n)])], 1⟩, fun i => i ≤ np n ∧ ∀ j, j < i → expOk n X j = true, fun i => np n - i, ⟨0, [], ⟨Nat.zero_le _, fun j hj => absurd hj (Nat.not_lt_zero _)⟩, Ent.g⟩, ?_⟩⟩
      rintro i ⟨k1, k2⟩
      by_cases hi : i < np n
      · have ho := (prt_z hn hi).o60
        rw [← hO i] at ho
        by_cases hx : 0 ≤ X i ∧ X i < O i
        · have hk : ∀ j, j < i + 1 → expOk n X j = true := fun j hj => by
            by_cases hji : j = i
            · subst hji
              unfold expOk
              rw [decide_eq_true hx.1, ← hO j, decide_eq_true hx.2]; rfl
            · exact k2 j (by omega)
          clear k2 hO hG
          have hx1 := hx.1
          have hx2 := hx.2
          repeat' ((conv => whnf); first | refine Ob.g ?_ | refine Cases.y ?_ | refine Cases.n ?_ | refine Idx.g rfl ?_ | refine Idx.z rfl ?_ | refine DrawOb.start ?_ | refine TryF.f ?_ | refine TryF.next rfl ?_ | refine TryF.other ?_ | refine TryA.g ?_ | refine TryA.next rfl ?_ | refine TryA.other ?_ | refine TryS.g ?_ | refine TryS.next rfl ?_ | refine TryS.other ?_ | refine TryG.g ?_ | refine TryG.next rfl ?_)
          exact ⟨i + 1, [], ⟨hi, hk⟩, by show np n - (i + 1) < np n - i; omega, Ent.g⟩
        · have he : e = 3 := by
            rw [HE.out, if_neg fun h => ?_]
            have := all_range.1 h i hi
            unfold expOk at this
            simp only [Bool.and_eq_true, decide_eq_true_eq] at this
            rw [← hO i] at this
            exact hx this
          subst he
          clear k2 hO hG
          by_cases hx1 : X i < 0
          · repeat' ((conv => whnf); first | refine Ob.g ?_ | refine Cases.y ?_ | refine Cases.n ?_ | refine Idx.g rfl ?_ | refine Idx.z rfl ?_ | refine DrawOb.start ?_ | refine TryF.f ?_ | refine TryF.next rfl ?_ | refine TryF.other ?_ | refine TryA.g ?_ | refine TryA.next rfl ?_ | refine TryA.other ?_ | refine TryS.g ?_ | refine TryS.next rfl ?_ | refine TryS.other ?_ | refine TryG.g ?_ | refine TryG.next rfl ?_)
            refine ⟨⟨_, _, rfl, rfl, ?_⟩⟩
            exact AvLe.refl _
          · repeat' ((conv => whnf); first | refine Ob.g ?_ | refine Cases.y ?_ | refine Cases.n ?_ | refine Idx.g rfl ?_ | refine Idx.z rfl ?_ | refine DrawOb.start ?_ | refine TryF.f ?_ | refine TryF.next rfl ?_ | refine TryF.other ?_ | refine TryA.g ?_ | refine TryA.next rfl ?_ | refine TryA.other ?_ | refine TryS.g ?_ | refine TryS.next rfl ?_ | refine TryS.other ?_ | refine TryG.g ?_ | refine TryG.next rfl ?_)
            refine ⟨⟨_, _, rfl, rfl, ?_⟩⟩
            exact AvLe.refl _
      · obtain rfl : i = np n := by omega
        have he : e = 0 := by rw [HE.out, if_pos (all_range.2 k2)]
        subst he
        clear k2 hO hG
        repeat' ((conv => whnf); first | refine Ob.g ?_ | refine Cases.y ?_ | refine Cases.n ?_ | refine Idx.g rfl ?_ | refine Idx.z rfl ?_ | refine DrawOb.start ?_ | refine TryF.f ?_ | refine TryF.next rfl ?_ | refine TryF.other ?_ | refine TryA.g ?_ | refine TryA.next rfl ?_ | refine TryA.other ?_ | refine TryS.g ?_ | refine TryS.next rfl ?_ | refine TryS.other ?_ | refine TryG.g ?_ | refine TryG.next rfl ?_)
        refine ⟨⟨_, _, rfl, rfl, ?_⟩⟩
        exact AvLe.refl _
    · have e : chkE n X l = 4 := by unfold chkE; rw [if_neg h1, Int.toNat_natCast, if_pos h2]
      rw [e]
      clear e h1 hO hG
      refine fn_sp (C := CX) [] [] tysX_ok mixed Tryz.func17 rfl (by kernel_rfl) Tryz.ntmps17 rfl rfl ?_
      repeat' ((conv => whnf); first | refine Ob.g ?_ | refine Cases.y ?_ | refine Cases.n ?_ | refine Idx.g rfl ?_ | refine Idx.z rfl ?_ | refine DrawOb.start ?_ | refine TryF.f ?_ | refine TryF.next rfl ?_ | refine TryF.other ?_ | refine TryA.g ?_ | refine TryA.next rfl ?_ | refine TryA.other ?_ | refine TryS.g ?_ | refine TryS.next rfl ?_ | refine TryS.other ?_ | refine TryG.g ?_ | refine TryG.next rfl ?_ | refine Sp.g (s0) ?_ | refine Sp.g (s1) ?_)
      refine ⟨⟨_, _, rfl, rfl, ?_⟩⟩
      exact AvLe.refl _
end Go.Proofs.YtedfcemebdlgfaaGreatDoor

/- Dirichlet characters: the reference's values, walked. -/
namespace Go.Proofs.YtedfcemebdlgfaaGreatDoor
open Go Go.RowKit Go.VG HP
set_option maxHeartbeats 8000000 in
theorem rval_sp {n : Nat} {E : Nat → Nat} {X : Nat → Int} {l : Nat} (c : ChOk n X l E) (a : Int) (ha1 : -4611686018427387904 ≤ a) (ha2 : a ≤ 4611686018427387904) : Sp CX 19 [chA n X l, int .i64 a] (.v (ruT (valR n E a))) := by
  obtain ⟨hn0, hn, rfl, ex⟩ := c
  have s0 := gcd18_sp a n (by omega) (by omega) (by omega) (by omega)
  by_cases hg : Int.gcd a n = 1
  · have hvr : valR n E a = (false, chv n E a) := by unfold valR; rw [if_pos hg]
    rw [hvr]
    clear hvr
    rw [hg] at s0
    obtain ⟨G, hG⟩ : ∃ G : Nat → Nat, ∀ i, G i = genT n (prtAt n i) := ⟨_, fun _ => rfl⟩
    obtain ⟨O, hO⟩ : ∃ O : Nat → Nat, ∀ i, O i = (prtAt n i).o := ⟨_, fun _ => rfl⟩
    have s1 := rgens28_sp n hn0 hn G O (fun i _ => hG i) (fun i _ => hO i)
    have s2 := root_sp 0 1 (by omega) (by omega) (by omega)
    have s3 := mod_sp a n (by omega) (by omega) (by omega) (by omega)
    rw [← rs_nat (show 0 < n by omega)] at s3
    have hral := rs_lt (a := a) (q := n) (by omega)
    have hrg : Nat.gcd (rs a n) n = 1 := unit_part hg (Nat.dvd_refl n) (by omega)
    obtain ⟨c1, c2, c3⟩ := c_at hn0 hn hral hrg
    have hcv : rt (sm n (dgt n (cOf n (rs a n) (np n))) E (np n)) (dn n (np n)) = chv n E a := by
      unfold chv
      congr 1
      refine sm_congr fun j hj => ?_
      rw [c3 j hj, rs_rs (by omega) (by have := (prt_z hn hj).q3; omega) (prt_z hn hj).dvd]
      rfl
    generalize chv n E a = P at *
    have hl := np_le hn
    have hdl := dn_le hn (Nat.le_refl (np n))
    have hyn : ∀ c, c < dn n (np n) → c ≠ cOf n (rs a n) (np n) → yA n c (np n) ≠ rs a n := fun c hc hne h => by
      have := cOf_yA hn0 hn hc
      rw [h] at this
      exact hne this.symm
    generalize rs a n = r at *
    generalize cOf n r (np n) = C at *
    have e1n : (1 : Int).tmod n = ((1 % n : Nat) : Int) := by have := (Int.ofNat_tmod 1 n).symm; simpa using this
    have hlt1 := Nat.mod_lt 1 (show 0 < n by omega)
    clear hg hrg c3
    refine fn_sp (C := CX) [] [] tysX_ok mixed Tryz.func19 rfl (by kernel_rfl) Tryz.ntmps19 rfl rfl ?_
    repeat' ((conv => whnf); first | refine Ob.g ?_ | refine Cases.y ?_ | refine Cases.n ?_ | refine Idx.g rfl ?_ | refine Idx.z rfl ?_ | refine DrawOb.start ?_ | refine TryF.f ?_ | refine TryF.next rfl ?_ | refine TryF.other ?_ | refine TryA.g ?_ | refine TryA.next rfl ?_ | refine TryA.other ?_ | refine TryS.g ?_ | refine TryS.next rfl ?_ | refine TryS.other ?_ | refine TryG.g ?_ | refine TryG.next rfl ?_ | refine Sp.g (s0) ?_ | refine Sp.g (s1) ?_)
    refine ⟨⟨Nat, nsL, fun _ => 0, np n, rfl, fun i j hi hj => ?_, ?_⟩⟩
    · obtain rfl : j = 0 := by have hj : j < 1 := hj; omega
      rfl
    repeat' ((conv => whnf); first | refine Ob.g ?_ | refine Cases.y ?_ | refine Cases.n ?_ | refine Idx.g rfl ?_ | refine Idx.z rfl ?_ | refine DrawOb.start ?_ | refine TryF.f ?_ | refine TryF.next rfl ?_ | refine TryF.other ?_ | refine TryA.g ?_ | refine TryA.next rfl ?_ | refine TryA.other ?_ | refine TryS.g ?_ | refine TryS.next rfl ?_ | refine TryS.other ?_ | refine TryG.g ?_ | refine TryG.next rfl ?_)
    refine ⟨⟨Nat, fun c => ⟨[(1, int .i64 a), (2, .v (.c (.loc 0 0))), (4, .v (.c (.loc 1 0))), (5, int .i64 n), (6, .v (nsA G (np n))), (7, .v (nsA O (np n))), (8, .v (.c (.row 2)))], [(0, .st [ix n, xsL X (np n)]), (1, .st [.x (.bool false), ix 0, ix 0]), (2, .rw 1 3 false Nat nsL (dgt n c) (np n))], 3⟩, fun c => c ≤ C, fun c => C - c, ⟨0, [], Nat.zero_le _, by
      refine ⟨?_, .cons rfl (.refl _) (.cons rfl (.refl _) (.cons rfl (.rw (fun i j _ _ => .int ?_) fun _ _ _ _ => rfl) .nil)), rfl⟩
      · repeat (first | exact TmE.nil | refine TmE.cons (by first | exact AvLe.refl _ | exact AvLe.int (by omega)) ?_)
      · show (0 : Int) = ((0 / dn n i % (prtAt n i).o : Nat) : Int)
        rw [Nat.zero_div, Nat.zero_mod]; rfl⟩, ?_⟩⟩
    intro c hc
    have hcd : c < dn n (np n) := by omega
    have hyc := hyn c hcd
    clear hyn
    have e0 : ((1 % n : Nat) : Int) = ((yA n c 0 : Nat) : Int) := rfl
    repeat' ((conv => whnf); first | refine Ob.g ?_ | refine Cases.y ?_ | refine Cases.n ?_ | refine Idx.g rfl ?_ | refine Idx.z rfl ?_ | refine DrawOb.start ?_ | refine TryF.f ?_ | refine TryF.next rfl ?_ | refine TryF.other ?_ | refine TryA.g ?_ | refine TryA.next rfl ?_ | refine TryA.other ?_ | refine TryS.g ?_ | refine TryS.next rfl ?_ | refine TryS.other ?_ | refine TryG.g ?_ | refine TryG.next rfl ?_ | refine Sp.g (s2) ?_)
    refine ⟨⟨Nat × Nat × Nat × Nat, fun (i, y, u, d) => ⟨[(1, int .i64 a), (2, .v (.c (.loc 0 0))), (4, .v (.c (.loc 1 0))), (5, int .i64 n), (6, .v (nsA G (np n))), (7, .v (nsA O (np n))), (8, .v (.c (.row 2))), (9, int .i64 y), (10, .v (.c (.loc 3 0))), (11, int .i64 i)], [(0, .st [ix n, xsL X (np n)]), (1, .st [.x (.bool false), ix 0, ix 0]), (2, .rw 1 3 false Nat nsL (dgt n c) (np n)), (3, .st [.x (.bool false), ix u, ix d])], 4⟩, fun (i, y, u, d) => i ≤ np n ∧ Hid (y = yA n c i) ∧ Hid ((u, d) = rt (sm n (dgt n c) E i) (dn n i)), fun (i, _) => np n - i, ⟨(0, 1 % n, 0, 1), [.r 10 3], ⟨Nat.zero_le _, Lib.hid rfl, Lib.hid (by show _ = rt 0 1; rfl)⟩, Ent.g⟩, ?_⟩⟩
    rintro ⟨i, y, u, d⟩ ⟨k1, hy, hud⟩
    have hdp := dn_pos hn i k1
    have hdi := dn_le hn k1
    obtain ⟨_, f2, _, f4, f5⟩ := rt_facts (N := sm n (dgt n c) E i) hdp
    rw [← hud.out] at f2 f4 f5
    simp only at f2 f4 f5
    have hd60 : d ≤ 60 := Nat.le_trans (Nat.le_of_dvd hdp f5) hdi
    have hyl := yA_lt (n := n) (c := c) (by omega) i
    rw [← hy.out] at hyl
    clear f5
    by_cases hi : i < np n
    · have ok := prt_z hn hi
      obtain ⟨hXi, hEi⟩ := ex i hi
      have ho1 := ok.o1
      have ho60 := ok.o60
      have hgl := genT_lt ok
      rw [← hG i] at hgl
      have hyS : yA n c (i + 1) = mulP n (G i) (yA n c i) (dgt n c i) := by rw [yA, hG i]
      have hdd := dgt_lt hn0 hn hcd hi
      rw [← hO i] at hdd ho1 ho60 hEi
      have hst := rt_times (S := sm n (dgt n c) E i) (t := dgt n c i * E i) hdp (show 0 < O i by omega)
      have hsm : sm n (dgt n c) E i * O i + dgt n c i * E i * dn n i = sm n (dgt n c) E (i + 1) := by rw [sm, hO i, Nat.mul_comm (dgt n c i)]
      have hdn1 : dn n i * O i = dn n (i + 1) := by rw [dn, hO i]
      rw [hsm, hdn1, ← hud.out] at hst
      simp only at hst
      clear hsm hdn1 ok ex
      have m1 : dgt n c i * E i ≤ 60 * 60 := Nat.mul_le_mul (by omega) (by omega)
      have s4 := root_sp (dgt n c i * E i) (O i) ho1 (by omega) (by omega)
      obtain ⟨_, g2, _, g4, g5⟩ := rt_facts (N := dgt n c i * E i) (show 0 < O i by omega)
      have g60 := Nat.le_of_dvd (show 0 < O i by omega) g5
      have s5 := times_sp (false, u, d) (false, rt (dgt n c i * E i) (O i)) (.inr (.inr ⟨f2, g2⟩)) (by show u ≤ 1000; omega) (by show d ≤ 1000; omega) (by show (rt _ _).1 ≤ 1000; omega) (by show (rt _ _).2 ≤ 1000; omega)
      have htm : tms (false, u, d) (false, rt (dgt n c i * E i) (O i)) = (false, rt (sm n (dgt n c) E (i + 1)) (dn n (i + 1))) := by
        unfold tms
        rw [if_neg (by simp), ← hst]
      rw [htm] at s5
      clear hst htm g2 g4 g5 g60
      have hN : ((dgt n c i : Nat) : Int) * X i = ((dgt n c i * E i : Nat) : Int) := by rw [hXi]; push_cast; rfl
      obtain ⟨V, hV⟩ : ∃ V, V = rt (sm n (dgt n c) E (i + 1)) (dn n (i + 1)) := ⟨_, rfl⟩
      rw [← hV] at s5
      have HV := Lib.hid hV
      clear hV
      generalize rt (dgt n c i * E i) (O i) = R at *
      generalize dgt n c i * E i = T at *
      repeat' ((conv => whnf); first | refine Ob.g ?_ | refine Cases.y ?_ | refine Cases.n ?_ | refine Idx.g rfl ?_ | refine Idx.z rfl ?_ | refine DrawOb.start ?_ | refine TryF.f ?_ | refine TryF.next rfl ?_ | refine TryF.other ?_ | refine TryA.g ?_ | refine TryA.next rfl ?_ | refine TryA.other ?_ | refine TryS.g ?_ | refine TryS.next rfl ?_ | refine TryS.other ?_ | refine TryG.g ?_ | refine TryG.next rfl ?_)
      refine ⟨⟨Nat × Nat, fun (k, y) => ⟨[(1, int .i64 a), (2, .v (.c (.loc 0 0))), (4, .v (.c (.loc 1 0))), (5, int .i64 n), (6, .v (nsA G (np n))), (7, .v (nsA O (np n))), (8, .v (.c (.row 2))), (9, int .i64 y), (10, .v (.c (.loc 3 0))), (11, int .i64 i), (12, int .i64 k)], [(0, .st [ix n, xsL X (np n)]), (1, .st [.x (.bool false), ix 0, ix 0]), (2, .rw 1 3 false Nat nsL (dgt n c) (np n)), (3, .st [.x (.bool false), ix u, ix d])], 4⟩, fun (k, y) => k ≤ dgt n c i ∧ Hid (y = mulP n (G i) (yA n c i) k), fun (k, _) => dgt n c i - k, ⟨(0, y), [], ⟨Nat.zero_le _, hy⟩, Ent.g⟩, ?_⟩⟩
      rintro ⟨k, y'⟩ ⟨q1, hy'⟩
      by_cases hk : k < dgt n c i
      · have hyl' := mulP_lt (n := n) (g := G i) (by omega) (yA_lt (n := n) (c := c) (by omega) i) k
        rw [← hy'.out] at hyl'
        have b1 : y' * G i ≤ 60 * 60 := Nat.mul_le_mul (by omega) (by omega)
        have b2 : (y' : Int) * (G i : Nat) = ((y' * G i : Nat) : Int) := by push_cast; rfl
        have b3 : ((y' : Int) * (G i : Nat)).tmod n = ((y' * G i % n : Nat) : Int) := by rw [b2]; exact (Int.ofNat_tmod _ _).symm
        have hn2 : Hid (y' * G i % n = mulP n (G i) (yA n c i) (k + 1)) := Lib.hid (by rw [mulP, ← hy'.out])
        clear hyS hy' hy hud
        generalize y' * G i % n = y2 at *
        repeat' ((conv => whnf); first | refine Ob.g ?_ | refine Cases.y ?_ | refine Cases.n ?_ | refine Idx.g rfl ?_ | refine Idx.z rfl ?_ | refine DrawOb.start ?_ | refine TryF.f ?_ | refine TryF.next rfl ?_ | refine TryF.other ?_ | refine TryA.g ?_ | refine TryA.next rfl ?_ | refine TryA.other ?_ | refine TryS.g ?_ | refine TryS.next rfl ?_ | refine TryS.other ?_ | refine TryG.g ?_ | refine TryG.next rfl ?_)
        exact ⟨(k + 1, y2), [], ⟨hk, hn2⟩, by show dgt n c i - (k + 1) < dgt n c i - k; omega, Ent.g⟩
      · obtain rfl : k = dgt n c i := by omega
        have hn2 : Hid (y' = yA n c (i + 1)) := Lib.hid (by rw [hyS]; exact hy'.out)
        clear hyS hy' hy hud
        repeat' ((conv => whnf); first | refine Ob.g ?_ | refine Cases.y ?_ | refine Cases.n ?_ | refine Idx.g rfl ?_ | refine Idx.z rfl ?_ | refine DrawOb.start ?_ | refine TryF.f ?_ | refine TryF.next rfl ?_ | refine TryF.other ?_ | refine TryA.g ?_ | refine TryA.next rfl ?_ | refine TryA.other ?_ | refine TryS.g ?_ | refine TryS.next rfl ?_ | refine TryS.other ?_ | refine TryG.g ?_ | refine TryG.next rfl ?_ | refine Sp.call (s4) (.cons (.int hN) (.cons (.refl _) .nil)) rfl (AvLe.refl _) ?_ | refine Sp.g (s5) ?_)
        exact ⟨(i + 1, y', V.1, V.2), [], ⟨hi, hn2, HV⟩, by show np n - (i + 1) < np n - i; omega, Ent.g⟩
    · obtain rfl : i = np n := by omega
      by_cases hcC : c = C
      · subst hcC
        have hPu : (u, d) = P := hud.out.trans hcv
        subst hPu
        have hyr : y = r := hy.out.trans c2
        subst hyr
        clear hy hud hcv
        repeat' ((conv => whnf); first | refine Ob.g ?_ | refine Cases.y ?_ | refine Cases.n ?_ | refine Idx.g rfl ?_ | refine Idx.z rfl ?_ | refine DrawOb.start ?_ | refine TryF.f ?_ | refine TryF.next rfl ?_ | refine TryF.other ?_ | refine TryA.g ?_ | refine TryA.next rfl ?_ | refine TryA.other ?_ | refine TryS.g ?_ | refine TryS.next rfl ?_ | refine TryS.other ?_ | refine TryG.g ?_ | refine TryG.next rfl ?_ | refine Sp.g (s3) ?_)
        refine ⟨⟨_, _, rfl, rfl, ?_⟩⟩
        exact AvLe.refl _
      · have hne := hyc hcC
        rw [← hy.out] at hne
        obtain ⟨n1, n2, n3, n4⟩ := nxt_at hn0 hn (show c + 1 < dn n (np n) by omega)
        generalize incK n c = K at *
        obtain ⟨W, hW⟩ : ∃ W : Nat → Nat → Nat, ∀ i j, W i j = if j < i then 0 else dgt n c j := ⟨_, fun _ _ => rfl⟩
        have hW0 : ∀ j, W 0 j = dgt n c j := fun j => by rw [hW, if_neg (by omega)]
        have hWi : ∀ i, W i i = dgt n c i := fun i => by rw [hW, if_neg (by omega)]
        have hWn : ∀ i j, setZ Nat (W i) i 0 j = W (i + 1) j := fun i j => by
          unfold setZ
          rw [hW, hW]
          by_cases h : j = i
          · rw [if_pos h, if_pos (by omega)]
          · rw [if_neg h]
            by_cases h2 : j < i
            · rw [if_pos h2, if_pos (by omega)]
            · rw [if_neg h2, if_neg (by omega)]
        have hWK : ∀ j, j < np n → setZ Nat (W K) K (dgt n c K + 1) j = dgt n (c + 1) j := fun j hj => by
          unfold setZ
          by_cases h : j = K
          · rw [if_pos h, h, n3.2]
          · rw [if_neg h, hW]
            by_cases h2 : j < K
            · rw [if_pos h2, (n2 j h2).2]
            · rw [if_neg h2, n4 j (by omega) hj]
        clear hW
        clear hy hud hcv c2 hyc n4
        repeat' ((conv => whnf); first | refine Ob.g ?_ | refine Cases.y ?_ | refine Cases.n ?_ | refine Idx.g rfl ?_ | refine Idx.z rfl ?_ | refine DrawOb.start ?_ | refine TryF.f ?_ | refine TryF.next rfl ?_ | refine TryF.other ?_ | refine TryA.g ?_ | refine TryA.next rfl ?_ | refine TryA.other ?_ | refine TryS.g ?_ | refine TryS.next rfl ?_ | refine TryS.other ?_ | refine TryG.g ?_ | refine TryG.next rfl ?_ | refine Sp.g (s3) ?_)
        refine ⟨⟨Nat, fun i => ⟨[(1, int .i64 a), (2, .v (.c (.loc 0 0))), (4, .v (.c (.loc 1 0))), (5, int .i64 n), (6, .v (nsA G (np n))), (7, .v (nsA O (np n))), (8, .v (.c (.row 2))), (13, int .i64 i)], [(0, .st [ix n, xsL X (np n)]), (1, .st [.x (.bool false), ix 0, ix 0]), (2, .rw 1 3 false Nat nsL (W i) (np n))], 4⟩, fun i => i ≤ K, fun i => K - i, ⟨0, [], Nat.zero_le _, by
          refine ⟨?_, .cons rfl (.refl _) (.cons rfl (.refl _) (.cons rfl (.rw (fun i j _ _ => .int (by rw [hW0])) fun _ _ _ _ => rfl) .nil)), rfl⟩
          repeat (first | exact TmE.nil | refine TmE.cons (by first | exact AvLe.refl _ | exact AvLe.int (by omega)) ?_)⟩, ?_⟩⟩
        intro i hi'
        have hwi := hWi i
        by_cases hiK : i < K
        · have h2 := (n2 i hiK).1
          rw [← hO i] at h2
          have ho1 := (prt_z hn (show i < np n by omega)).o1
          have ho60 := (prt_z hn (show i < np n by omega)).o60
          rw [← hO i] at ho1 ho60
          clear n2 n3 hO hG
          repeat' ((conv => whnf); first | refine Ob.g ?_ | refine Cases.y ?_ | refine Cases.n ?_ | refine Idx.g rfl ?_ | refine Idx.z rfl ?_ | refine DrawOb.start ?_ | refine TryF.f ?_ | refine TryF.next rfl ?_ | refine TryF.other ?_ | refine TryA.g ?_ | refine TryA.next rfl ?_ | refine TryA.other ?_ | refine TryS.g ?_ | refine TryS.next rfl ?_ | refine TryS.other ?_ | refine TryG.g ?_ | refine TryG.next rfl ?_)
          refine ⟨⟨0, rfl, ?_⟩⟩
          repeat' ((conv => whnf); first | refine Ob.g ?_ | refine Cases.y ?_ | refine Cases.n ?_ | refine Idx.g rfl ?_ | refine Idx.z rfl ?_ | refine DrawOb.start ?_ | refine TryF.f ?_ | refine TryF.next rfl ?_ | refine TryF.other ?_ | refine TryA.g ?_ | refine TryA.next rfl ?_ | refine TryA.other ?_ | refine TryS.g ?_ | refine TryS.next rfl ?_ | refine TryS.other ?_ | refine TryG.g ?_ | refine TryG.next rfl ?_)
          exact ⟨i + 1, [], hiK, by show K - (i + 1) < K - i; omega, by
            refine ⟨?_, .cons rfl (.refl _) (.cons rfl (.refl _) (.cons rfl (.rw (fun i' j _ _ => .int (by rw [hWn])) fun _ _ _ _ => rfl) .nil)), rfl⟩
            repeat (first | exact TmE.nil | refine TmE.cons (by first | exact AvLe.refl _ | exact AvLe.int (by omega)) ?_)⟩
        · obtain rfl : i = K := by omega
          have h2 := n3.1
          rw [← hO i] at h2
          have ho1 := (prt_z hn n1).o1
          have ho60 := (prt_z hn n1).o60
          have hdd := dgt_lt hn0 hn hcd n1
          rw [← hO i] at ho1 ho60 hdd
          clear n2 n3 hO hG
          repeat' ((conv => whnf); first | refine Ob.g ?_ | refine Cases.y ?_ | refine Cases.n ?_ | refine Idx.g rfl ?_ | refine Idx.z rfl ?_ | refine DrawOb.start ?_ | refine TryF.f ?_ | refine TryF.next rfl ?_ | refine TryF.other ?_ | refine TryA.g ?_ | refine TryA.next rfl ?_ | refine TryA.other ?_ | refine TryS.g ?_ | refine TryS.next rfl ?_ | refine TryS.other ?_ | refine TryG.g ?_ | refine TryG.next rfl ?_)
          refine ⟨⟨dgt n c i + 1, ?_, ?_⟩⟩
          · show [Leaf.x _] = [ix _]
            congr 3
            rw [hwi]; push_cast; rfl
          repeat' ((conv => whnf); first | refine Ob.g ?_ | refine Cases.y ?_ | refine Cases.n ?_ | refine Idx.g rfl ?_ | refine Idx.z rfl ?_ | refine DrawOb.start ?_ | refine TryF.f ?_ | refine TryF.next rfl ?_ | refine TryF.other ?_ | refine TryA.g ?_ | refine TryA.next rfl ?_ | refine TryA.other ?_ | refine TryS.g ?_ | refine TryS.next rfl ?_ | refine TryS.other ?_ | refine TryG.g ?_ | refine TryG.next rfl ?_)
          exact ⟨c + 1, [], by show c + 1 ≤ C; omega, by show C - (c + 1) < C - c; omega, by
            refine ⟨?_, .cons rfl (.refl _) (.cons rfl (.refl _) (.cons rfl (.rw (fun i' j hi' _ => .int (by rw [hWK i' hi'])) fun _ _ _ _ => rfl) .nil)), rfl⟩
            repeat (first | exact TmE.nil | refine TmE.cons (by first | exact AvLe.refl _ | exact AvLe.int (by omega)) ?_)⟩
  · have hvr : valR n E a = (true, 0, 0) := by unfold valR; rw [if_neg hg]
    rw [hvr]
    clear hvr
    generalize Int.gcd a n = g at *
    refine fn_sp (C := CX) [] [] tysX_ok mixed Tryz.func19 rfl (by kernel_rfl) Tryz.ntmps19 rfl rfl ?_
    repeat' ((conv => whnf); first | refine Ob.g ?_ | refine Cases.y ?_ | refine Cases.n ?_ | refine Idx.g rfl ?_ | refine Idx.z rfl ?_ | refine DrawOb.start ?_ | refine TryF.f ?_ | refine TryF.next rfl ?_ | refine TryF.other ?_ | refine TryA.g ?_ | refine TryA.next rfl ?_ | refine TryA.other ?_ | refine TryS.g ?_ | refine TryS.next rfl ?_ | refine TryS.other ?_ | refine TryG.g ?_ | refine TryG.next rfl ?_ | refine Sp.g (s0) ?_)
    refine ⟨⟨_, _, rfl, rfl, ?_⟩⟩
    exact AvLe.refl _
end Go.Proofs.YtedfcemebdlgfaaGreatDoor

/- Dirichlet characters: the reference's order, conductor, parity, products, walked. -/
namespace HP
theorem rt_den {E o : Nat} (h : E < o) : (rt E o).2 = o / Nat.gcd o E := by
  unfold rt
  rw [Nat.mod_eq_of_lt h, Nat.gcd_comm]
def oneB (p : Bool × Nat × Nat) : Bool := !p.1 && Nat.beq p.2.1 0
/-- what the reference tests at a -/
def tst (n : Nat) (E : Nat → Nat) (f a : Nat) : Bool := (Nat.gcd a n != 1) || ((a - 1) % f != 0) || oneB (valR n E (a : Int))
def preT (n : Nat) (E : Nat → Nat) (f : Nat) : Nat → Bool
  | 0 => Nat.beq (n % f) 0
  | a + 1 => preT n E f a && tst n E f (a + 1)
theorem preT_le {n : Nat} {E : Nat → Nat} {f a : Nat} : ∀ {b : Nat}, a ≤ b → preT n E f b = true → preT n E f a = true
  | 0, h, hb => by obtain rfl : a = 0 := by omega
                   exact hb
  | b + 1, h, hb => by
    by_cases hab : a = b + 1
    · subst hab; exact hb
    · rw [preT, Bool.and_eq_true] at hb
      exact preT_le (by omega) hb.1
theorem preT_iff {n : Nat} {E : Nat → Nat} {f : Nat} : ∀ {b : Nat}, preT n E f b = true ↔ n % f = 0 ∧ ∀ a, 1 ≤ a → a ≤ b → tst n E f a = true
  | 0 => by
    rw [preT]
    constructor
    · intro h; exact ⟨Nat.eq_of_beq_eq_true h, fun a h1 h2 => by omega⟩
    · rintro ⟨h, _⟩; rw [h]; rfl
  | b + 1 => by
    rw [preT, Bool.and_eq_true, preT_iff]
    constructor
    · rintro ⟨⟨h1, h2⟩, h3⟩
      refine ⟨h1, fun a a1 a2 => ?_⟩
      by_cases hab : a = b + 1
      · subst hab; exact h3
      · exact h2 a a1 (by omega)
    · rintro ⟨h1, h2⟩
      exact ⟨⟨h1, fun a a1 a2 => h2 a a1 (by omega)⟩, h2 _ (by omega) (by omega)⟩
theorem okv_zero {n : Nat} {E : Nat → Nat} {a : Nat} (hg : Nat.gcd a n ≠ 1) : okv n E (a : Int) = true := by
  unfold okv valR
  rw [if_neg (by rw [Int.gcd_natCast_natCast]; exact hg)]
  rfl
theorem oneB_unit {n : Nat} {E : Nat → Nat} {a : Nat} (hg : Nat.gcd a n = 1) : oneB (valR n E (a : Int)) = okv n E (a : Int) := by
  unfold oneB okv valR
  rw [if_pos (by rw [Int.gcd_natCast_natCast]; exact hg)]
  rfl
theorem preT_trv {n : Nat} {E : Nat → Nat} {f : Nat} (hf : 1 ≤ f) : preT n E f n = true ↔ f ∣ n ∧ trv n E f = true := by
  rw [preT_iff, ← Nat.dvd_iff_mod_eq_zero]
  refine and_congr_right fun hfn => ?_
  unfold trv
  rw [List.all_eq_true]
  constructor
  · intro h j _
    rw [Bool.or_eq_true, decide_eq_true_eq]
    by_cases hj : n < 1 + j * f
    · exact .inl hj
    · right
      by_cases hg : Nat.gcd (1 + j * f) n = 1
      · have := h (1 + j * f) (by omega) (by omega)
        unfold tst at this
        rw [hg, show (1 + j * f - 1) % f = 0 by rw [Nat.add_sub_cancel_left, Nat.mul_mod_left]] at this
        rw [← oneB_unit hg]
        simpa using this
      · exact okv_zero hg
  · intro h a a1 a2
    unfold tst
    by_cases hg : Nat.gcd a n = 1
    · by_cases hm : (a - 1) % f = 0
      · obtain ⟨j, hj⟩ := Nat.dvd_of_mod_eq_zero hm
        have hjn : j < n := by
          have : j ≤ f * j := Nat.le_mul_of_pos_left j hf
          omega
        have := h j (List.mem_range.2 hjn)
        have ea : 1 + j * f = a := by rw [Nat.mul_comm]; omega
        rw [ea, Bool.or_eq_true, decide_eq_true_eq] at this
        rcases this with h | h
        · omega
        · rw [hg, hm, oneB_unit hg, h]; rfl
      · rw [Bool.or_eq_true, Bool.or_eq_true]
        exact .inl (.inr (by simpa using hm))
    · rw [Bool.or_eq_true, Bool.or_eq_true]
      exact .inl (.inl (by simpa using hg))
theorem cnd_least {n : Nat} (hn0 : 1 ≤ n) (hn : n ≤ 60) (E : Nat → Nat) : preT n E (cnd n E) n = true ∧ ∀ f, 1 ≤ f → f < cnd n E → preT n E f n = false := by
  obtain ⟨i1, i2, i3⟩ := cndI_spec hn0 hn E
  obtain ⟨d1, d2, d3⟩ := cnd_dvd hn0 hn E
  refine ⟨(preT_trv d2).2 ⟨d1, i2⟩, fun f f1 f2 => ?_⟩
  cases hp : preT n E f n with
  | false => rfl
  | true =>
    obtain ⟨h1, h2⟩ := (preT_trv f1).1 hp
    obtain ⟨j, hj, he⟩ := List.mem_iff_getElem.1 ((dvs_mem hn0).2 h1)
    have ej : (dvs n).getD j 0 = f := by rw [List.getD_eq_getElem?_getD, List.getElem?_eq_getElem hj, he]; rfl
    have ei : (dvs n)[cndI n E] = cnd n E := by unfold cnd; rw [List.getD_eq_getElem?_getD, List.getElem?_eq_getElem i1]; rfl
    have hji : j < cndI n E := by
      apply Nat.lt_of_not_le
      intro hle
      have : cnd n E ≤ f := by
        rcases Nat.lt_or_eq_of_le hle with hlt | heq
        · have := List.pairwise_iff_getElem.1 (dvs_sorted n) _ _ i1 hj hlt
          omega
        · subst heq
          rw [← ei, he]; exact Nat.le_refl _
      omega
    have := i3 j hji
    rw [ej, h2] at this
    cases this
theorem fold_oc {n : Nat} {E : Nat → Nat} (i : Nat) : oc n E (i + 1) = oc n E i / Nat.gcd (oc n E i) ((prtAt n i).o / Nat.gcd (prtAt n i).o (E i)) * ((prtAt n i).o / Nat.gcd (prtAt n i).o (E i)) := rfl
end HP
namespace Go.Proofs.YtedfcemebdlgfaaGreatDoor
open Go Go.RowKit Go.VG HP
theorem one_sp (p : Bool × Nat × Nat) : Sp CX 39 [.v (ruT p)] (bool (oneB p)) := by
  obtain ⟨z, u, d⟩ := p
  cases z with
  | true =>
    refine fn_sp (C := CX) [] [] tysX_ok mixed Tryz.func39 rfl (by kernel_rfl) Tryz.ntmps39 rfl rfl ?_
    repeat' ((conv => whnf); first | refine Ob.g ?_ | refine Cases.y ?_ | refine Cases.n ?_ | refine Idx.g rfl ?_ | refine Idx.z rfl ?_ | refine DrawOb.start ?_ | refine TryF.f ?_ | refine TryF.next rfl ?_ | refine TryF.other ?_ | refine TryA.g ?_ | refine TryA.next rfl ?_ | refine TryA.other ?_ | refine TryS.g ?_ | refine TryS.next rfl ?_ | refine TryS.other ?_ | refine TryG.g ?_ | refine TryG.next rfl ?_)
    refine ⟨⟨_, _, rfl, rfl, ?_⟩⟩
    exact AvLe.refl _
  | false =>
    by_cases hu : u = 0
    · subst hu
      refine fn_sp (C := CX) [] [] tysX_ok mixed Tryz.func39 rfl (by kernel_rfl) Tryz.ntmps39 rfl rfl ?_
      repeat' ((conv => whnf); first | refine Ob.g ?_ | refine Cases.y ?_ | refine Cases.n ?_ | refine Idx.g rfl ?_ | refine Idx.z rfl ?_ | refine DrawOb.start ?_ | refine TryF.f ?_ | refine TryF.next rfl ?_ | refine TryF.other ?_ | refine TryA.g ?_ | refine TryA.next rfl ?_ | refine TryA.other ?_ | refine TryS.g ?_ | refine TryS.next rfl ?_ | refine TryS.other ?_ | refine TryG.g ?_ | refine TryG.next rfl ?_)
      refine ⟨⟨_, _, rfl, rfl, ?_⟩⟩
      exact AvLe.refl _
    · have e : oneB (false, u, d) = false := by
        unfold oneB
        simp only [Bool.not_false, Bool.true_and]
        rw [Bool.eq_false_iff]
        intro h
        exact hu (Nat.eq_of_beq_eq_true h)
      rw [e]
      refine fn_sp (C := CX) [] [] tysX_ok mixed Tryz.func39 rfl (by kernel_rfl) Tryz.ntmps39 rfl rfl ?_
      repeat' ((conv => whnf); first | refine Ob.g ?_ | refine Cases.y ?_ | refine Cases.n ?_ | refine Idx.g rfl ?_ | refine Idx.z rfl ?_ | refine DrawOb.start ?_ | refine TryF.f ?_ | refine TryF.next rfl ?_ | refine TryF.other ?_ | refine TryA.g ?_ | refine TryA.next rfl ?_ | refine TryA.other ?_ | refine TryS.g ?_ | refine TryS.next rfl ?_ | refine TryS.other ?_ | refine TryG.g ?_ | refine TryG.next rfl ?_)
      refine ⟨⟨_, _, rfl, rfl, ?_⟩⟩
      refine AvLe.bool ?_
      show decide ((u : Int) = 0) = false
      exact decide_eq_false (by omega)
set_option maxHeartbeats 8000000 in
theorem rcnd_sp {n : Nat} {E : Nat → Nat} {X : Nat → Int} {l : Nat} (c : ChOk n X l E) : Sp CX 21 [chA n X l] (int .i64 (cnd n E : Nat)) := by
  have n0 := c.n0
  have n1 := c.n1
  obtain ⟨p1, p2⟩ := cnd_least n0 n1 E
  obtain ⟨d1, d2, d3⟩ := cnd_dvd n0 n1 E
  have d4 := Nat.le_of_dvd n0 d1
  have sv := fun a : Nat => fun h : a ≤ 60 => rval_sp c (a : Int) (by omega) (by omega)
  have s1 := fun p => one_sp p
  generalize cnd n E = r at *
  clear c
  refine fn_sp (C := CX) [] [] tysX_ok mixed Tryz.func21 rfl (by kernel_rfl) Tryz.ntmps21 rfl rfl ?_
  repeat' ((conv => whnf); first | refine Ob.g ?_ | refine Cases.y ?_ | refine Cases.n ?_ | refine Idx.g rfl ?_ | refine Idx.z rfl ?_ | refine DrawOb.start ?_ | refine TryF.f ?_ | refine TryF.next rfl ?_ | refine TryF.other ?_ | refine TryA.g ?_ | refine TryA.next rfl ?_ | refine TryA.other ?_ | refine TryS.g ?_ | refine TryS.next rfl ?_ | refine TryS.other ?_ | refine TryG.g ?_ | refine TryG.next rfl ?_)
  refine ⟨⟨Nat, fun f => ⟨[(1, .v (.c (.loc 0 0))), (3, int .i64 n), (4, int .i64 f)], [(0, .st [ix n, xsL X l])], 1⟩, fun f => 1 ≤ f ∧ f ≤ r, fun f => r - f, ⟨1, [], ⟨Nat.le_refl _, d2⟩, Ent.g⟩, ?_⟩⟩
  rintro f ⟨f1, f2⟩
  by_cases hf : f < n
  · have em : (n : Int).tmod f = ((n % f : Nat) : Int) := (Int.ofNat_tmod _ _).symm
    have hres : ∀ t, t = preT n E f n → (t = true → f = r) ∧ (t = false → f < r) := fun t ht => by
      subst ht
      refine ⟨fun h => ?_, fun h => ?_⟩
      · rcases Nat.lt_or_eq_of_le f2 with h2 | h2
        · have := p2 f f1 h2
          rw [h] at this
          cases this
        · exact h2
      · rcases Nat.lt_or_eq_of_le f2 with h2 | h2
        · exact h2
        · subst h2
          rw [p1] at h
          cases h
    have h00 : decide (((n % f : Nat) : Int) = 0) = preT n E f 0 := by
      rw [preT]
      by_cases h : n % f = 0
      · rw [h]; rfl
      · rw [decide_eq_false (by omega), Eq.comm, Bool.eq_false_iff]
        intro x
        exact h (Nat.eq_of_beq_eq_true x)
    clear p1 p2
    repeat' ((conv => whnf); first | refine Ob.g ?_ | refine Cases.y ?_ | refine Cases.n ?_ | refine Idx.g rfl ?_ | refine Idx.z rfl ?_ | refine DrawOb.start ?_ | refine TryF.f ?_ | refine TryF.next rfl ?_ | refine TryF.other ?_ | refine TryA.g ?_ | refine TryA.next rfl ?_ | refine TryA.other ?_ | refine TryS.g ?_ | refine TryS.next rfl ?_ | refine TryS.other ?_ | refine TryG.g ?_ | refine TryG.next rfl ?_)
    refine ⟨⟨Nat × Bool, fun (a, t) => ⟨[(1, .v (.c (.loc 0 0))), (3, int .i64 n), (4, int .i64 f), (5, bool t), (6, int .i64 (a + 1 : Nat))], [(0, .st [ix n, xsL X l])], 1⟩, fun (a, t) => a ≤ n ∧ t = preT n E f a, fun (a, _) => n - a, ⟨(0, preT n E f 0), [], ⟨Nat.zero_le _, rfl⟩, by
      refine ⟨?_, ?_, rfl⟩ <;> repeat (first | exact TmE.nil | exact OwnE.nil | refine TmE.cons (by first | exact AvLe.refl _ | exact AvLe.int (by omega) | exact AvLe.bool (by rw [em]; exact h00)) ?_ | refine OwnE.cons rfl (BlkLe.refl _) ?_)⟩, ?_⟩⟩
    rintro ⟨a, t⟩ ⟨ha, ht⟩
    cases t with
    | false =>
      have hff : preT n E f n = false := by
        cases hx : preT n E f n with
        | false => rfl
        | true => rw [preT_le ha hx] at ht; cases ht
      have hlt := (hres _ rfl).2 hff
      clear hres hff h00 ht
      by_cases han : a + 1 ≤ n
      · repeat' ((conv => whnf); first | refine Ob.g ?_ | refine Cases.y ?_ | refine Cases.n ?_ | refine Idx.g rfl ?_ | refine Idx.z rfl ?_ | refine DrawOb.start ?_ | refine TryF.f ?_ | refine TryF.next rfl ?_ | refine TryF.other ?_ | refine TryA.g ?_ | refine TryA.next rfl ?_ | refine TryA.other ?_ | refine TryS.g ?_ | refine TryS.next rfl ?_ | refine TryS.other ?_ | refine TryG.g ?_ | refine TryG.next rfl ?_)
        exact ⟨f + 1, [], ⟨by omega, by omega⟩, by show r - (f + 1) < r - f; omega, Ent.g⟩
      · repeat' ((conv => whnf); first | refine Ob.g ?_ | refine Cases.y ?_ | refine Cases.n ?_ | refine Idx.g rfl ?_ | refine Idx.z rfl ?_ | refine DrawOb.start ?_ | refine TryF.f ?_ | refine TryF.next rfl ?_ | refine TryF.other ?_ | refine TryA.g ?_ | refine TryA.next rfl ?_ | refine TryA.other ?_ | refine TryS.g ?_ | refine TryS.next rfl ?_ | refine TryS.other ?_ | refine TryG.g ?_ | refine TryG.next rfl ?_)
        exact ⟨f + 1, [], ⟨by omega, by omega⟩, by show r - (f + 1) < r - f; omega, Ent.g⟩
    | true =>
      by_cases han : a + 1 ≤ n
      · have hS : preT n E f (a + 1) = tst n E f (a + 1) := by rw [preT, ← ht, Bool.true_and]
        have sg := gcd18_sp ((a + 1 : Nat) : Int) (n : Int) (by omega) (by omega) (by omega) (by omega)
        rw [Int.gcd_natCast_natCast] at sg
        have sv' := sv (a + 1) (by omega)
        have ea : ((a + 1 : Nat) : Int) - 1 = (a : Int) := by omega
        have ea2 : ((a : Nat) : Int).tmod f = ((a % f : Nat) : Int) := (Int.ofNat_tmod _ _).symm
        have ea3 : (((a + 1 : Nat) : Int) - 1).tmod f = ((a % f : Nat) : Int) := by rw [ea]; exact ea2
        have htst : tst n E f (a + 1) = ((Nat.gcd (a + 1) n != 1) || (a % f != 0) || oneB (valR n E ((a + 1 : Nat) : Int))) := rfl
        generalize valR n E ((a + 1 : Nat) : Int) = p at *
        generalize Nat.gcd (a + 1) n = g at *
        have so := s1 p
        clear s1 sv h00 hres ht
        by_cases hg : g = 1
        · by_cases hm : a % f = 0
          · have hv : tst n E f (a + 1) = oneB p := by rw [htst, hg, hm]; rfl
            rw [hv] at hS
            generalize oneB p = o at *
            clear htst hv
            repeat' ((conv => whnf); first | refine Ob.g ?_ | refine Cases.y ?_ | refine Cases.n ?_ | refine Idx.g rfl ?_ | refine Idx.z rfl ?_ | refine DrawOb.start ?_ | refine TryF.f ?_ | refine TryF.next rfl ?_ | refine TryF.other ?_ | refine TryA.g ?_ | refine TryA.next rfl ?_ | refine TryA.other ?_ | refine TryS.g ?_ | refine TryS.next rfl ?_ | refine TryS.other ?_ | refine TryG.g ?_ | refine TryG.next rfl ?_ | refine Sp.g (sg) ?_ | refine Sp.g (sv') ?_ | refine Sp.g (so) ?_)
            exact ⟨(a + 1, o), [], ⟨han, hS.symm⟩, by show n - (a + 1) < n - a; omega, Ent.g⟩
          · have hv : tst n E f (a + 1) = true := by rw [htst, hg, show (a % f != 0) = true by simpa using hm]; rfl
            rw [hv] at hS
            clear htst hv
            generalize a % f = q at *
            repeat' ((conv => whnf); first | refine Ob.g ?_ | refine Cases.y ?_ | refine Cases.n ?_ | refine Idx.g rfl ?_ | refine Idx.z rfl ?_ | refine DrawOb.start ?_ | refine TryF.f ?_ | refine TryF.next rfl ?_ | refine TryF.other ?_ | refine TryA.g ?_ | refine TryA.next rfl ?_ | refine TryA.other ?_ | refine TryS.g ?_ | refine TryS.next rfl ?_ | refine TryS.other ?_ | refine TryG.g ?_ | refine TryG.next rfl ?_ | refine Sp.g (sg) ?_)
            exact ⟨(a + 1, true), [], ⟨han, hS.symm⟩, by show n - (a + 1) < n - a; omega, by
              refine ⟨?_, ?_, rfl⟩ <;> repeat (first | exact TmE.nil | exact OwnE.nil | refine TmE.cons (by first | exact AvLe.refl _ | exact AvLe.int (by omega) | exact AvLe.bool (by first | rfl | simp; omega)) ?_ | refine OwnE.cons rfl (BlkLe.refl _) ?_)⟩
        · have hv : tst n E f (a + 1) = true := by rw [htst, show (g != 1) = true by simpa using hg]; rfl
          rw [hv] at hS
          clear htst hv
          repeat' ((conv => whnf); first | refine Ob.g ?_ | refine Cases.y ?_ | refine Cases.n ?_ | refine Idx.g rfl ?_ | refine Idx.z rfl ?_ | refine DrawOb.start ?_ | refine TryF.f ?_ | refine TryF.next rfl ?_ | refine TryF.other ?_ | refine TryA.g ?_ | refine TryA.next rfl ?_ | refine TryA.other ?_ | refine TryS.g ?_ | refine TryS.next rfl ?_ | refine TryS.other ?_ | refine TryG.g ?_ | refine TryG.next rfl ?_ | refine Sp.g (sg) ?_)
          exact ⟨(a + 1, true), [], ⟨han, hS.symm⟩, by show n - (a + 1) < n - a; omega, by
            refine ⟨?_, ?_, rfl⟩ <;> repeat (first | exact TmE.nil | exact OwnE.nil | refine TmE.cons (by first | exact AvLe.refl _ | exact AvLe.int (by omega) | exact AvLe.bool (by first | rfl | simp; omega)) ?_ | refine OwnE.cons rfl (BlkLe.refl _) ?_)⟩
      · obtain rfl : a = n := by omega
        have hfr := (hres _ rfl).1 ht.symm
        subst hfr
        clear hres h00 ht
        repeat' ((conv => whnf); first | refine Ob.g ?_ | refine Cases.y ?_ | refine Cases.n ?_ | refine Idx.g rfl ?_ | refine Idx.z rfl ?_ | refine DrawOb.start ?_ | refine TryF.f ?_ | refine TryF.next rfl ?_ | refine TryF.other ?_ | refine TryA.g ?_ | refine TryA.next rfl ?_ | refine TryA.other ?_ | refine TryS.g ?_ | refine TryS.next rfl ?_ | refine TryS.other ?_ | refine TryG.g ?_ | refine TryG.next rfl ?_)
        refine ⟨⟨_, _, rfl, rfl, AvLe.int ?_⟩⟩
        rfl
  · have hfr : f = n := by omega
    have hr : r = n := by omega
    subst hr
    clear p1 p2
    repeat' ((conv => whnf); first | refine Ob.g ?_ | refine Cases.y ?_ | refine Cases.n ?_ | refine Idx.g rfl ?_ | refine Idx.z rfl ?_ | refine DrawOb.start ?_ | refine TryF.f ?_ | refine TryF.next rfl ?_ | refine TryF.other ?_ | refine TryA.g ?_ | refine TryA.next rfl ?_ | refine TryA.other ?_ | refine TryS.g ?_ | refine TryS.next rfl ?_ | refine TryS.other ?_ | refine TryG.g ?_ | refine TryG.next rfl ?_)
    refine ⟨⟨_, _, rfl, rfl, AvLe.int ?_⟩⟩
    rfl
theorem revn_sp {n : Nat} {E : Nat → Nat} {X : Nat → Int} {l : Nat} (c : ChOk n X l E) : Sp CX 18 [chA n X l] (bool (oneB (valR n E (-1)))) := by
  have s0 := rval_sp c (-1) (by omega) (by omega)
  have s1 := one_sp (valR n E (-1))
  generalize valR n E (-1) = p at *
  generalize oneB p = o at *
  refine fn_sp (C := CX) [] [] tysX_ok mixed Tryz.func18 rfl (by kernel_rfl) Tryz.ntmps18 rfl rfl ?_
  repeat' ((conv => whnf); first | refine Ob.g ?_ | refine Cases.y ?_ | refine Cases.n ?_ | refine Idx.g rfl ?_ | refine Idx.z rfl ?_ | refine DrawOb.start ?_ | refine TryF.f ?_ | refine TryF.next rfl ?_ | refine TryF.other ?_ | refine TryA.g ?_ | refine TryA.next rfl ?_ | refine TryA.other ?_ | refine TryS.g ?_ | refine TryS.next rfl ?_ | refine TryS.other ?_ | refine TryG.g ?_ | refine TryG.next rfl ?_ | refine Sp.g (s0) ?_ | refine Sp.g (s1) ?_)
  refine ⟨⟨_, _, rfl, rfl, ?_⟩⟩
  exact AvLe.refl _
end Go.Proofs.YtedfcemebdlgfaaGreatDoor

/- Dirichlet characters: the reference's extended characters, products, conjugates, lists, walked. -/
namespace HP
/-- the exponents of the character with the modulus m that the reference finds -/
def withW (n : Nat) (E : Nat → Nat) (m i : Nat) : Int := (exW n E m (fun i => liftT n m (genT m (prtAt m i))) i : Nat)
theorem lift_zero {n m g : Nat} (h : Nat.gcd g n = 1) : liftK n m g = some 0 := by
  have : (List.range 61) = 0 :: (List.range 60).map (· + 1) := by rw [List.range_succ_eq_map]
  unfold liftK
  rw [this, List.find?_cons_of_pos]
  simpa using h
theorem liftT_zero {n m g : Nat} (h : Nat.gcd g n = 1) : liftT n m g = g := by unfold liftT; rw [lift_zero h]; simp
end HP
namespace Go.Proofs.YtedfcemebdlgfaaGreatDoor
open Go Go.RowKit Go.VG HP
/-- a character in a list, read by its exponents -/
def chmL (n : Nat) (z : List Nat) (j : Nat) : Leaf := if j = 0 then ix n else .sl 1 Nat nsL (fun i => z.getD i 0) z.length
theorem chmL_pure (n : Nat) (z : List Nat) (j : Nat) : pureN (chmL n z j) = true := by
  unfold chmL
  split <;> rfl
theorem chmL_pl (n : Nat) (z : List Nat) (j : Nat) : pureL (chmL n z j) = true := pureN_l (chmL_pure n z j)
theorem chl_chm (n : Nat) (z : List Nat) (j : Nat) : LeafLe (chlL n z j) (chmL n z j) := by
  unfold chlL chmL
  by_cases hj : j = 0
  · rw [if_pos hj, if_pos hj]; exact .refl _
  · rw [if_neg hj, if_neg hj]
    by_cases hz : z = []
    · subst hz; exact .nil
    · rw [if_neg hz]; exact .refl _
end Go.Proofs.YtedfcemebdlgfaaGreatDoor

/- Dirichlet characters: comparisons; the reference's quadratic characters, walked. -/
namespace HP
def eqI (X : Nat → Int) (l : Nat) (Y : Nat → Int) (m : Nat) : Bool := decide (l = m) && (List.range l).all fun i => decide (X i = Y i)
theorem eqI_iff {X Y : Nat → Int} {l m : Nat} : eqI X l Y m = true ↔ l = m ∧ ∀ i, i < l → X i = Y i := by
  unfold eqI
  rw [Bool.and_eq_true, decide_eq_true_eq, all_range]
  refine and_congr_right fun _ => ?_
  constructor
  · intro h i hi; exact of_decide_eq_true (h i hi)
  · intro h i hi; exact decide_eq_true (h i hi)
theorem eqI_f {X Y : Nat → Int} {l m : Nat} (h : ¬ (l = m ∧ ∀ i, i < l → X i = Y i)) : eqI X l Y m = false := by
  rw [Bool.eq_false_iff]
  intro x
  exact h (eqI_iff.1 x)
/-- no square of a prime divides m -/
def frB (m : Nat) : Bool := (List.range 8).all fun p => Nat.blt p 2 || Nat.blt m (p * p) || m % (p * p) != 0
def fundQ (d : Int) : Bool := bif decide (d = 0) || decide (d = 1) then false else (decide (d % 4 = 1) && frB d.natAbs) || (decide (d.tmod 4 = 0) && decide (2 ≤ (d.tdiv 4) % 4) && frB (d.tdiv 4).natAbs)
end HP
namespace Go.Proofs.YtedfcemebdlgfaaGreatDoor
open Go Go.RowKit Go.VG HP
def xsA (X : Nat → Int) (l : Nat) : AV := .v (.c (xsL X l))
theorem ns_xs (Z : Nat → Nat) (n : Nat) : LeafLe (.sl 1 Nat nsL Z n) (xsL (fun i => (Z i : Int)) n) := .sl fun _ _ _ _ => .refl _
end Go.Proofs.YtedfcemebdlgfaaGreatDoor

/- Dirichlet characters: the reference's symbols and quadratic characters, walked. -/
namespace HP
open Go.Proofs.YtedfcemebdlgfaaGreatDoor
theorem leg_chk : allB 61 (fun p => Nat.blt p 3 || !(pq p p) || allB p fun r => Nat.beq r 0 || ((List.range p).any (fun x => Nat.ble 1 x && x * x % p == r) == decide (leg r p = 1) && (decide (leg r p = 1) || decide (leg r p = -1)))) = true := by decide +kernel
theorem prm_pq {p : Nat} (hp : Prm p) : pq p p = true := by
  unfold pq
  rw [List.all_eq_true]
  intro i hi
  have hi := List.mem_range.1 hi
  have h2 := hp.two_le
  have : p % (i + 2) ≠ 0 := fun h => by
    have hd := Nat.dvd_of_mod_eq_zero h
    rcases hp.2 _ hd with h | h <;> omega
  simpa using this
theorem leg_at {p r : Nat} (hp : Prm p) (h2 : p ≠ 2) (hp60 : p ≤ 60) (hr : r < p) (hr0 : r ≠ 0) : (leg r p = 1 ↔ ∃ x, 1 ≤ x ∧ x < p ∧ x * x % p = r) ∧ (leg r p = 1 ∨ leg r p = -1) := by
  have h3 := three_le hp h2
  have h := allB_at leg_chk (show p < 61 by omega)
  rw [show Nat.blt p 3 = false from by
    rw [Bool.eq_false_iff]; intro h; have := Nat.le_of_ble_eq_true h; omega, prm_pq hp] at h
  have h := allB_at (show allB p _ = true from h) hr
  rw [show Nat.beq r 0 = false from by
    rw [Bool.eq_false_iff]; intro h; exact hr0 (Nat.eq_of_beq_eq_true h), Bool.false_or, Bool.and_eq_true] at h
  obtain ⟨a1, a2⟩ := h
  have e := eq_of_beq a1
  refine ⟨?_, by simpa using a2⟩
  constructor
  · intro h1
    rw [decide_eq_true h1] at e
    obtain ⟨x, hx, hx2⟩ := List.any_eq_true.1 e
    rw [Bool.and_eq_true] at hx2
    exact ⟨x, Nat.le_of_ble_eq_true hx2.1, List.mem_range.1 hx, by simpa using hx2.2⟩
  · rintro ⟨x, x1, x2, x3⟩
    have : (List.range p).any (fun x => Nat.ble 1 x && x * x % p == r) = true := List.any_eq_true.2 ⟨x, List.mem_range.2 x2, by rw [Bool.and_eq_true]; exact ⟨Nat.ble_eq_true_of_le x1, by simpa using x3⟩⟩
    rw [this] at e
    exact of_decide_eq_true e.symm
def fundC (d : Int) : Int × Int × Int :=
  bif decide (d = 0) then (0, 0, 2) else if 1 < d % 4 then (0, 0, 15)
  else if ((if d < 0 then -1 else 1) * frL (facC d.natAbs)) % 4 = 1 then ((if d < 0 then -1 else 1) * frL (facC d.natAbs), sqL (facC d.natAbs), 0)
  else (4 * ((if d < 0 then -1 else 1) * frL (facC d.natAbs)), sqL (facC d.natAbs) / 2, 0)
theorem fundC_eq {d : Int} (h1 : -60 ≤ d) (h2 : d ≤ 60) : fundOut d = fundC d := by
  unfold fundOut fundC fundT
  by_cases h0 : d = 0
  · rw [if_pos (.inl h0), decide_eq_true h0]; rfl
  · rw [if_neg (by omega), decide_eq_false h0, facs_C (by omega) (by omega)]; rfl
theorem qe_chk : allB 121 (fun k => let d : Int := (k : Int) - 60
    decide (d = 0) || (decide ((fundC d).2.2 ≠ 0 ∨ (fundC d).2.1 ≠ 1) == decide (d ≠ 1 ∧ fundQ d = false))) = true := by decide +kernel
theorem qe_at {d : Int} (h1 : -60 ≤ d) (h2 : d ≤ 60) (h0 : d ≠ 0) : ((fundOut d).2.2 ≠ 0 ∨ (fundOut d).2.1 ≠ 1) ↔ (d ≠ 1 ∧ fundQ d = false) := by
  rw [fundC_eq h1 h2]
  have h := allB_at qe_chk (show (d + 60).toNat < 121 by omega)
  have e : (((d + 60).toNat : Nat) : Int) - 60 = d := by omega
  simp only [e] at h
  rw [decide_eq_false h0, Bool.false_or] at h
  exact decide_eq_decide.1 (eq_of_beq h)
end HP
namespace Go.Proofs.YtedfcemebdlgfaaGreatDoor
open Go Go.RowKit Go.VG HP
def quR (d : Int) : Int := if d = 0 ∨ d < -60 ∨ 60 < d then 2 else if d ≠ 1 ∧ fundQ d = false then 15 else 0
theorem quE_R (d : Int) : quE d = quR d := by
  unfold quE quR
  by_cases h : d = 0 ∨ d < -60 ∨ 60 < d
  · rw [if_pos h, if_pos h]
  · rw [if_neg h, if_neg h]
    have := qe_at (d := d) (by omega) (by omega) (by omega)
    by_cases h2 : d ≠ 1 ∧ fundQ d = false
    · rw [if_pos h2, if_pos (this.2 h2)]
    · rw [if_neg h2, if_neg (fun x => h2 (this.1 x))]
end Go.Proofs.YtedfcemebdlgfaaGreatDoor

