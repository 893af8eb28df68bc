/- Own texts joined: DiE, DiF, DiG, DiH, DiI. -/
import Derived.Test.YtedfcemebdlgfaaGreatDoorDiD
/- Dirichlet characters: logarithms, values, checks, walked. -/
namespace Go.Proofs.YtedfcemebdlgfaaGreatDoor
open Go Go.RowKit Go.VG HP
theorem agcd_sp (a b : Int) (ha1 : -9223372036854775807 ≤ a) (ha2 : a ≤ 9223372036854775807) (hb1 : -9223372036854775807 ≤ b) (hb2 : b ≤ 9223372036854775807) : Sp CX 83 [int .i64 a, int .i64 b] (int .i64 (Int.gcd a b : Nat)) := by
  have := gcd_sp a b (by omega) ha2 (by omega) hb2
  rwa [gcdW_eq ha1 ha2 hb1 hb2] at this
/-- a residue, as the program reckons it -/
theorem res_eq {a : Int} {q : Nat} (hq : 0 < q) : (a.tmod q + q).tmod q = ((rs a q : Nat) : Int) := by
  have h1 := Int.tmod_eq_emod (a := a) (b := (q : Int))
  have h2 := Int.emod_nonneg a (show (q : Int) ≠ 0 by omega)
  have h3 := Int.emod_lt_of_pos a (show (0 : Int) < q by omega)
  have e : ((rs a q : Nat) : Int) = a % q := by unfold rs; omega
  rw [e]
  have h4 : 0 ≤ a.tmod q + q := by split at h1 <;> omega
  rw [Int.tmod_eq_emod_of_nonneg h4]
  have h5 : a.tmod q + q = a % q + q ∨ a.tmod q + q = a % q := by
    split at h1
    · left; omega
    · right
      have : ((q : Int).natAbs : Int) = q := by omega
      omega
  rcases h5 with h | h <;> rw [h]
  · rw [Int.add_emod_right, Int.emod_emod_of_dvd _ (Int.dvd_refl _)]
  · rw [Int.emod_emod_of_dvd _ (Int.dvd_refl _)]
theorem rs_lt {a : Int} {q : Nat} (hq : 0 < q) : rs a q < q := by
  have h3 := Int.emod_lt_of_pos a (show (0 : Int) < q by omega)
  unfold rs; omega
def prtA (P : Prt) : AV := .v (.agg [ix P.r, ix P.o, ix P.q])
theorem flip_le {P : Prt} {a : Nat} (h : a < P.q) : flp P a ≤ P.q := by unfold flp; split <;> omega
set_option maxHeartbeats 4000000 in
theorem log_sp (n : Nat) (P : Prt) (a : Int) (ok : PartOk n P) (hg : Nat.gcd (rs a P.q) P.q = 1) (_ha1 : -4611686018427387904 ≤ a) (_ha2 : a ≤ 4611686018427387904) : Sp CX 84 [prtA P, int .i64 a] (int .i64 (lg P (rs a P.q))) := by
  have hq3 := ok.q3
  have hq60 := ok.q60
  have hr60 := ok.r60
  have hr1 := ok.r1
  have ho60 := ok.o60
  have hres := res_eq (a := a) (q := P.q) (by omega)
  have hlt := rs_lt (a := a) (q := P.q) (by omega)
  obtain ⟨hl1, hl2⟩ := ok.log _ hlt hg
  have hm1 : -(P.q : Int) < a.tmod P.q ∧ a.tmod P.q < P.q := by
    have := Int.tmod_lt_of_pos a (show (0 : Int) < P.q by omega)
    have := Int.lt_tmod_of_pos a (show (0 : Int) < P.q by omega)
    omega
  have e2 : (P.q : Int).tmod 2 = ((P.q % 2 : Nat) : Int) := (Int.ofNat_tmod _ 2).symm
  generalize rs a P.q = x at *
  have e4 : (x : Int).tmod 4 = ((x % 4 : Nat) : Int) := (Int.ofNat_tmod _ 4).symm
  have e5 : ((x % 4 : Nat) : Int).tdiv 2 = ((x % 4 / 2 : Nat) : Int) := (Int.ofNat_tdiv _ 2).symm
  have e6 : (x : Int).tmod 4 = (x : Int) % 4 := Int.tmod_eq_emod_of_nonneg (by omega)
  have e8 : ((a.tmod P.q + P.q).tmod P.q).tmod 4 = ((x % 4 : Nat) : Int) := by rw [hres]; exact e4
  clear ok hg
  cases hs : isSg P with
  | true =>
    have hs' := hs
    unfold isSg at hs'
    simp only [Bool.and_eq_true, beq_iff_eq] at hs'
    obtain ⟨g1, g2⟩ := hs'
    have hlg : lg P x = x % 4 / 2 := by unfold lg; rw [hs]; rfl
    rw [hlg]
    have e7 : ((x : Int).tmod 4).tdiv 2 = ((x % 4 / 2 : Nat) : Int) := by rw [e4, e5]
    clear hl1 hl2 hlg hs
    refine fn_sp (C := CX) [] [] tysX_ok mixed Tryz.func84 rfl (by kernel_rfl) Tryz.ntmps84 rfl rfl ?_
    repeat' ((conv => whnf); first | refine Ob.g ?_ | refine Cases.y ?_ | refine Cases.n ?_ | refine Idx.g rfl ?_ | refine Idx.z rfl ?_ | refine DrawOb.start ?_ | refine TryF.f ?_ | refine TryF.next rfl ?_ | refine TryF.other ?_ | refine TryA.g ?_ | refine TryA.next rfl ?_ | refine TryA.other ?_ | refine TryS.g ?_ | refine TryS.next rfl ?_ | refine TryS.other ?_ | refine TryG.g ?_ | refine TryG.next rfl ?_)
    refine ⟨⟨_, _, rfl, rfl, AvLe.int ?_⟩⟩
    rw [hres]
    exact e7
  | false =>
    have hl1 := hl1 hs
    obtain ⟨hd1, hd2⟩ := dlogO_spec hl1
    have hdl := hl2
    have hol := hd2
    clear hl1
    have hxk : ∀ k, powM P.r P.q k < P.q := fun k => by
      rw [powM_eq]; exact Nat.mod_lt _ (by omega)
    have hp0 : powM P.r P.q 0 = 1 := Nat.mod_eq_of_lt (by omega)
    have hps : ∀ k, ((powM P.r P.q k : Nat) * (P.r : Nat) : Int).tmod P.q = ((powM P.r P.q (k + 1) : Nat) : Int) := fun k => by
      rw [powM, ← Int.natCast_mul]; exact (Int.ofNat_tmod _ _).symm
    have hpm : ∀ k, 0 ≤ ((powM P.r P.q k : Nat) : Int) * (P.r : Nat) ∧ ((powM P.r P.q k : Nat) : Int) * (P.r : Nat) ≤ 60 * 60 := fun k =>
      ⟨Int.mul_nonneg (by omega) (by omega), Int.mul_le_mul (by have := hxk k; omega) (by omega) (by omega) (by omega)⟩
    generalize hd : lg P x = d at *
    have hdb : d ≤ 60 := by have := hl2; omega
    have hsg : P.q % 2 = 0 → P.r ≠ P.q - 1 := fun h1 h2 => by
      unfold isSg at hs
      rw [h1, h2] at hs
      simp at hs
    by_cases g1 : P.q % 2 = 0
    · have g2 := hsg g1
      by_cases g3 : x % 4 = 3
      · have hf : flp P x = P.q - x := by unfold flp; rw [if_pos ⟨g1, g3⟩]
        rw [hf] at hd1 hd2
        clear hol hd hs hsg hf hl2
        refine fn_sp (C := CX) [] [] tysX_ok mixed Tryz.func84 rfl (by kernel_rfl) Tryz.ntmps84 rfl rfl ?_
        repeat' ((conv => whnf); first | refine Ob.g ?_ | refine Cases.y ?_ | refine Cases.n ?_ | refine Idx.g rfl ?_ | refine Idx.z rfl ?_ | refine DrawOb.start ?_ | refine TryF.f ?_ | refine TryF.next rfl ?_ | refine TryF.other ?_ | refine TryA.g ?_ | refine TryA.next rfl ?_ | refine TryA.other ?_ | refine TryS.g ?_ | refine TryS.next rfl ?_ | refine TryS.other ?_ | refine TryG.g ?_ | refine TryG.next rfl ?_)
        refine ⟨⟨Nat × Nat, fun (k, y) => ⟨[(1, int .i64 (P.q - x : Nat)), (2, .v (.c (.loc 0 0))), (5, int .i64 P.q), (6, int .i64 k), (7, int .i64 y)], [(0, .st [ix P.r, ix P.o, ix P.q])], 1⟩, fun (k, y) => k ≤ d ∧ Hid (y = powM P.r P.q k), fun (k, _) => d - k, ⟨(0, 1), [], ⟨Nat.zero_le _, Lib.hid hp0.symm⟩, Ent.g⟩, ?_⟩⟩
        rintro ⟨k, y⟩ ⟨k1, hy⟩
        have hy := hy.out
        have b1 := hxk k
        have b2 := hpm k
        have b3 := hps k
        have b4 := hxk (k + 1)
        by_cases hk : k < d
        · have hne := hd2 k hk
          rw [← hy] at hne b1 b2 b3
          obtain ⟨z, hz⟩ : ∃ z, z = powM P.r P.q (k + 1) := ⟨_, rfl⟩
          rw [← hz] at b3 b4
          have HZ := Lib.hid hz
          clear hd1 hd2 hps hpm hxk hp0 hy hz
          repeat' ((conv => whnf); first | refine Ob.g ?_ | refine Cases.y ?_ | refine Cases.n ?_ | refine Idx.g rfl ?_ | refine Idx.z rfl ?_ | refine DrawOb.start ?_ | refine TryF.f ?_ | refine TryF.next rfl ?_ | refine TryF.other ?_ | refine TryA.g ?_ | refine TryA.next rfl ?_ | refine TryA.other ?_ | refine TryS.g ?_ | refine TryS.next rfl ?_ | refine TryS.other ?_ | refine TryG.g ?_ | refine TryG.next rfl ?_)
          exact ⟨(k + 1, z), [], ⟨hk, HZ⟩, by show d - (k + 1) < d - k; omega, Ent.g⟩
        · obtain rfl : k = d := by omega
          rw [← hy] at hd1 b1 b2 b3
          clear hd2 hps hpm hxk hp0 hy
          repeat' ((conv => whnf); first | refine Ob.g ?_ | refine Cases.y ?_ | refine Cases.n ?_ | refine Idx.g rfl ?_ | refine Idx.z rfl ?_ | refine DrawOb.start ?_ | refine TryF.f ?_ | refine TryF.next rfl ?_ | refine TryF.other ?_ | refine TryA.g ?_ | refine TryA.next rfl ?_ | refine TryA.other ?_ | refine TryS.g ?_ | refine TryS.next rfl ?_ | refine TryS.other ?_ | refine TryG.g ?_ | refine TryG.next rfl ?_)
          refine ⟨⟨_, _, rfl, rfl, AvLe.int ?_⟩⟩
          rfl
      · have hf : flp P x = x := by unfold flp; rw [if_neg (fun h => g3 h.2)]
        rw [hf] at hd1 hd2
        clear hol hd hs hsg hf hl2
        refine fn_sp (C := CX) [] [] tysX_ok mixed Tryz.func84 rfl (by kernel_rfl) Tryz.ntmps84 rfl rfl ?_
        repeat' ((conv => whnf); first | refine Ob.g ?_ | refine Cases.y ?_ | refine Cases.n ?_ | refine Idx.g rfl ?_ | refine Idx.z rfl ?_ | refine DrawOb.start ?_ | refine TryF.f ?_ | refine TryF.next rfl ?_ | refine TryF.other ?_ | refine TryA.g ?_ | refine TryA.next rfl ?_ | refine TryA.other ?_ | refine TryS.g ?_ | refine TryS.next rfl ?_ | refine TryS.other ?_ | refine TryG.g ?_ | refine TryG.next rfl ?_)
        refine ⟨⟨Nat × Nat, fun (k, y) => ⟨[(1, int .i64 (x : Nat)), (2, .v (.c (.loc 0 0))), (5, int .i64 P.q), (6, int .i64 k), (7, int .i64 y)], [(0, .st [ix P.r, ix P.o, ix P.q])], 1⟩, fun (k, y) => k ≤ d ∧ Hid (y = powM P.r P.q k), fun (k, _) => d - k, ⟨(0, 1), [], ⟨Nat.zero_le _, Lib.hid hp0.symm⟩, Ent.g⟩, ?_⟩⟩
        rintro ⟨k, y⟩ ⟨k1, hy⟩
        have hy := hy.out
        have b1 := hxk k
        have b2 := hpm k
        have b3 := hps k
        have b4 := hxk (k + 1)
        by_cases hk : k < d
        · have hne := hd2 k hk
          rw [← hy] at hne b1 b2 b3
          obtain ⟨z, hz⟩ : ∃ z, z = powM P.r P.q (k + 1) := ⟨_, rfl⟩
          rw [← hz] at b3 b4
          have HZ := Lib.hid hz
          clear hd1 hd2 hps hpm hxk hp0 hy hz
          repeat' ((conv => whnf); first | refine Ob.g ?_ | refine Cases.y ?_ | refine Cases.n ?_ | refine Idx.g rfl ?_ | refine Idx.z rfl ?_ | refine DrawOb.start ?_ | refine TryF.f ?_ | refine TryF.next rfl ?_ | refine TryF.other ?_ | refine TryA.g ?_ | refine TryA.next rfl ?_ | refine TryA.other ?_ | refine TryS.g ?_ | refine TryS.next rfl ?_ | refine TryS.other ?_ | refine TryG.g ?_ | refine TryG.next rfl ?_)
          exact ⟨(k + 1, z), [], ⟨hk, HZ⟩, by show d - (k + 1) < d - k; omega, Ent.g⟩
        · obtain rfl : k = d := by omega
          rw [← hy] at hd1 b1 b2 b3
          clear hd2 hps hpm hxk hp0 hy
          repeat' ((conv => whnf); first | refine Ob.g ?_ | refine Cases.y ?_ | refine Cases.n ?_ | refine Idx.g rfl ?_ | refine Idx.z rfl ?_ | refine DrawOb.start ?_ | refine TryF.f ?_ | refine TryF.next rfl ?_ | refine TryF.other ?_ | refine TryA.g ?_ | refine TryA.next rfl ?_ | refine TryA.other ?_ | refine TryS.g ?_ | refine TryS.next rfl ?_ | refine TryS.other ?_ | refine TryG.g ?_ | refine TryG.next rfl ?_)
          refine ⟨⟨_, _, rfl, rfl, AvLe.int ?_⟩⟩
          rfl
    · have hf : flp P x = x := by unfold flp; rw [if_neg (fun h => g1 h.1)]
      rw [hf] at hd1 hd2
      clear hol hd hs hsg hf hl2
      refine fn_sp (C := CX) [] [] tysX_ok mixed Tryz.func84 rfl (by kernel_rfl) Tryz.ntmps84 rfl rfl ?_
      repeat' ((conv => whnf); first | refine Ob.g ?_ | refine Cases.y ?_ | refine Cases.n ?_ | refine Idx.g rfl ?_ | refine Idx.z rfl ?_ | refine DrawOb.start ?_ | refine TryF.f ?_ | refine TryF.next rfl ?_ | refine TryF.other ?_ | refine TryA.g ?_ | refine TryA.next rfl ?_ | refine TryA.other ?_ | refine TryS.g ?_ | refine TryS.next rfl ?_ | refine TryS.other ?_ | refine TryG.g ?_ | refine TryG.next rfl ?_)
      refine ⟨⟨Nat × Nat, fun (k, y) => ⟨[(1, int .i64 (x : Nat)), (2, .v (.c (.loc 0 0))), (5, int .i64 P.q), (6, int .i64 k), (7, int .i64 y)], [(0, .st [ix P.r, ix P.o, ix P.q])], 1⟩, fun (k, y) => k ≤ d ∧ Hid (y = powM P.r P.q k), fun (k, _) => d - k, ⟨(0, 1), [], ⟨Nat.zero_le _, Lib.hid hp0.symm⟩, Ent.g⟩, ?_⟩⟩
      rintro ⟨k, y⟩ ⟨k1, hy⟩
      have hy := hy.out
      have b1 := hxk k
      have b2 := hpm k
      have b3 := hps k
      have b4 := hxk (k + 1)
      by_cases hk : k < d
      · have hne := hd2 k hk
        rw [← hy] at hne b1 b2 b3
        obtain ⟨z, hz⟩ : ∃ z, z = powM P.r P.q (k + 1) := ⟨_, rfl⟩
        rw [← hz] at b3 b4
        have HZ := Lib.hid hz
        clear hd1 hd2 hps hpm hxk hp0 hy hz
        repeat' ((conv => whnf); first | refine Ob.g ?_ | refine Cases.y ?_ | refine Cases.n ?_ | refine Idx.g rfl ?_ | refine Idx.z rfl ?_ | refine DrawOb.start ?_ | refine TryF.f ?_ | refine TryF.next rfl ?_ | refine TryF.other ?_ | refine TryA.g ?_ | refine TryA.next rfl ?_ | refine TryA.other ?_ | refine TryS.g ?_ | refine TryS.next rfl ?_ | refine TryS.other ?_ | refine TryG.g ?_ | refine TryG.next rfl ?_)
        exact ⟨(k + 1, z), [], ⟨hk, HZ⟩, by show d - (k + 1) < d - k; omega, Ent.g⟩
      · obtain rfl : k = d := by omega
        rw [← hy] at hd1 b1 b2 b3
        clear hd2 hps hpm hxk hp0 hy
        repeat' ((conv => whnf); first | refine Ob.g ?_ | refine Cases.y ?_ | refine Cases.n ?_ | refine Idx.g rfl ?_ | refine Idx.z rfl ?_ | refine DrawOb.start ?_ | refine TryF.f ?_ | refine TryF.next rfl ?_ | refine TryF.other ?_ | refine TryA.g ?_ | refine TryA.next rfl ?_ | refine TryA.other ?_ | refine TryS.g ?_ | refine TryS.next rfl ?_ | refine TryS.other ?_ | refine TryG.g ?_ | refine TryG.next rfl ?_)
        refine ⟨⟨_, _, rfl, rfl, AvLe.int ?_⟩⟩
        rfl
/-- a character as it lies in memory -/
def xL (z : Int) (_ : Nat) : Leaf := ix z
def xsL (X : Nat → Int) (l : Nat) : Leaf := .sl 1 Int xL X l
def chA (N : Int) (X : Nat → Int) (l : Nat) : AV := .v (.agg [ix N, xsL X l])
/-- a root of unity -/
def ruA (z : Bool) (u d : Nat) : AV := .v (.agg [.x (.bool z), ix u, ix d])
theorem rt_alt {N D : Nat} (hD : 0 < D) : N / Nat.gcd N D % (D / Nat.gcd N D) = (rt N D).1 ∧ D / Nat.gcd N D = (rt N D).2 := by
  have hg : 0 < Nat.gcd N D := Nat.gcd_pos_of_pos_right _ hD
  have e : Nat.gcd (N % D) D = Nat.gcd N D := by rw [← Nat.gcd_rec, Nat.gcd_comm]
  obtain ⟨x, hx⟩ := Nat.gcd_dvd_left N D
  obtain ⟨y, hy⟩ := Nat.gcd_dvd_right N D
  unfold rt
  rw [e]
  generalize Nat.gcd N D = g at *
  subst hx hy
  refine ⟨?_, rfl⟩
  rw [Nat.mul_mod_mul_left, Nat.mul_div_cancel_left _ hg, Nat.mul_div_cancel_left _ hg, Nat.mul_div_cancel_left _ hg]
theorem dn_chk : allB 61 (fun n => allB 4 fun i => Nat.blt (np n) i || Nat.ble (dn n i) 60) = true := by decide +kernel
theorem dn_le {n i : Nat} (hn : n ≤ 60) (hi : i ≤ np n) : dn n i ≤ 60 := by
  have h3 := np_le hn
  have := allB_at (allB_at dn_chk (show n < 61 by omega)) (show i < 4 by omega)
  rw [show Nat.blt (np n) i = false from by
    rw [Bool.eq_false_iff]
    intro h
    have := Nat.le_of_ble_eq_true h
    omega, Bool.false_or] at this
  exact Nat.le_of_ble_eq_true this
theorem unit_part {n q : Nat} {a : Int} (hg : Int.gcd a n = 1) (hq : q ∣ n) (hq0 : 0 < q) : Nat.gcd (rs a q) q = 1 := by
  have h1 : Nat.gcd a.natAbs n = 1 := by simpa [Int.gcd] using hg
  have h2 : Nat.gcd a.natAbs q = 1 := Nat.Coprime.coprime_dvd_right hq h1
  have e1 : ((rs a q : Nat) : Int) = a % q := by
    have := Int.emod_nonneg a (show (q : Int) ≠ 0 by omega)
    unfold rs; omega
  have e := gcd_emod a q
  rw [← e1, Int.gcd_natCast_natCast] at e
  rw [e]
  simpa [Int.gcd] using h2
set_option maxHeartbeats 4000000 in
theorem value_sp (n : Nat) (E : Nat → Nat) (X : Nat → Int) (a : Int) (hn0 : 1 ≤ n) (hn : n ≤ 60) (hX : ∀ i, i < np n → X i = E i ∧ E i < (prtAt n i).o) (hg : Int.gcd a n = 1) (ha1 : -4611686018427387904 ≤ a) (ha2 : a ≤ 4611686018427387904) :
    Sp CX 62 [chA n X (np n), int .i64 a] (ruA false (chv n E a).1 (chv n E a).2) := by
  have s0 := agcd_sp a n (by omega) (by omega) (by omega) (by omega)
  rw [hg] at s0
  have s1 := parts_sp n (prtAt n) (np n) (fun i x h => by unfold prtAt; rw [List.getD_eq_getElem?_getD, h]; rfl) rfl hn0 hn
  have hl := np_le hn
  obtain ⟨P, hP⟩ : ∃ P, P = chv n E a := ⟨_, rfl⟩
  rw [← hP]
  have HP := Lib.hid hP
  clear hP
  refine fn_sp (C := CX) [] [] tysX_ok mixed Tryz.func62 rfl (by kernel_rfl) Tryz.ntmps62 rfl rfl ?_
  repeat' ((conv => whnf); first | refine Ob.g ?_ | refine Cases.y ?_ | refine Cases.n ?_ | refine Idx.g rfl ?_ | refine Idx.z rfl ?_ | refine DrawOb.start ?_ | refine TryF.f ?_ | refine TryF.next rfl ?_ | refine TryF.other ?_ | refine TryA.g ?_ | refine TryA.next rfl ?_ | refine TryA.other ?_ | refine TryS.g ?_ | refine TryS.next rfl ?_ | refine TryS.other ?_ | refine TryG.g ?_ | refine TryG.next rfl ?_ | refine Sp.g (s0) ?_ | refine Sp.g (s1) ?_)
  refine ⟨⟨Nat × Nat × Nat, fun (i, u, d) => ⟨[(1, int .i64 a), (2, .v (.c (.loc 0 0))), (4, .v (.c (.loc 1 0))), (5, int .i64 u), (6, int .i64 d), (18, .v (.c (.sl 3 Prt prtL (prtAt n) (np n)))), (19, int .i64 (np n)), (20, int .i64 i)], [(0, .st [ix n, xsL X (np n)]), (1, .st [.x (.bool false), ix 0, ix 0])], 2⟩, fun (i, u, d) => i ≤ np n ∧ Hid ((u, d) = rt (sm n (lgs n a) E i) (dn n i)), fun (i, _, _) => np n - i, ⟨(0, 0, 1), [], ⟨Nat.zero_le _, Lib.hid (by show _ = rt 0 1; rfl)⟩, Ent.g⟩, ?_⟩⟩
  rintro ⟨i, u, d⟩ ⟨k1, hud⟩
  have hud := hud.out
  have hdp := dn_pos hn i k1
  have hdl := dn_le hn k1
  obtain ⟨_, f2, _, f4, f5⟩ := rt_facts (N := sm n (lgs n a) E i) hdp
  rw [← hud] at f2 f4 f5
  simp only at f2 f4 f5
  have hd60 : d ≤ 60 := Nat.le_trans (Nat.le_of_dvd hdp f5) hdl
  clear f5
  by_cases hi : i < np n
  · have ok := prt_z hn hi
    obtain ⟨hXi, hEi⟩ := hX i hi
    have hu := unit_part hg ok.dvd (by have := ok.q3; omega)
    have s2 := log_sp n (prtAt n i) a ok hu ha1 ha2
    have hlo := (ok.log _ (rs_lt (a := a) (q := (prtAt n i).q) (by have := ok.q3; omega)) hu).2
    have ho1 := ok.o1
    have ho60 := ok.o60
    have hst0 := rt_step (S := sm n (lgs n a) E i) (t := E i * lgs n a i) hdp (show 0 < (prtAt n i).o by omega)
    rw [← hud] at hst0
    have hst : rt (u * (prtAt n i).o + E i * lgs n a i * d) (d * (prtAt n i).o) = rt (sm n (lgs n a) E (i + 1)) (dn n (i + 1)) := hst0
    clear hst0
    have el : lgs n a i = lg (prtAt n i) (rs a (prtAt n i).q) := rfl
    rw [el] at hst
    generalize lg (prtAt n i) (rs a (prtAt n i).q) = lv at *
    have hD : 0 < d * (prtAt n i).o := Nat.mul_pos f2 (by omega)
    obtain ⟨g1, g2⟩ := rt_alt (N := u * (prtAt n i).o + E i * lv * d) hD
    obtain ⟨_, r2, _, _, _⟩ := rt_facts (N := u * (prtAt n i).o + E i * lv * d) hD
    have hgp : 0 < Nat.gcd (u * (prtAt n i).o + E i * lv * d) (d * (prtAt n i).o) := Nat.gcd_pos_of_pos_right _ hD
    have hN : (u : Int) * (prtAt n i).o + X i * lv * d = ((u * (prtAt n i).o + E i * lv * d : Nat) : Int) := by rw [hXi]; push_cast; rfl
    have hDe : (d : Int) * (prtAt n i).o = ((d * (prtAt n i).o : Nat) : Int) := by push_cast; rfl
    have m1 : u * (prtAt n i).o ≤ 60 * 60 := Nat.mul_le_mul (by omega) ho60
    have m2 : E i * lv ≤ 60 * 60 := Nat.mul_le_mul (by omega) (by omega)
    have m3 : E i * lv * d ≤ 60 * 60 * 60 := Nat.mul_le_mul m2 hd60
    have m4 : d * (prtAt n i).o ≤ 60 * 60 := Nat.mul_le_mul hd60 ho60
    have i1 : (u : Int) * (prtAt n i).o = ((u * (prtAt n i).o : Nat) : Int) := by push_cast; rfl
    have i2 : X i * lv = ((E i * lv : Nat) : Int) := by rw [hXi]; push_cast; rfl
    have i3 : X i * lv * d = ((E i * lv * d : Nat) : Int) := by rw [hXi]; push_cast; rfl
    have hNb : u * (prtAt n i).o + E i * lv * d ≤ 300000 := by omega
    generalize u * (prtAt n i).o + E i * lv * d = NN at *
    generalize d * (prtAt n i).o = DD at *
    generalize u * (prtAt n i).o = U at *
    generalize E i * lv * d = V at *
    generalize E i * lv = W at *
    have s3 := agcd_sp (NN : Int) (DD : Int) (by omega) (by omega) (by omega) (by omega)
    rw [Int.gcd_natCast_natCast] at s3
    have hgl : Nat.gcd NN DD ≤ DD := Nat.le_of_dvd hD (Nat.gcd_dvd_right _ _)
    have hF0 : ((NN : Int)).tdiv (Nat.gcd NN DD : Nat) = ((NN / Nat.gcd NN DD : Nat) : Int) := (Int.ofNat_tdiv _ _).symm
    have hF2 : ((DD : Int)).tdiv (Nat.gcd NN DD : Nat) = (((rt NN DD).2 : Nat) : Int) := by rw [← g2]; exact (Int.ofNat_tdiv _ _).symm
    have hF1 : (((NN : Int)).tdiv (Nat.gcd NN DD : Nat)).tmod (((DD : Int)).tdiv (Nat.gcd NN DD : Nat)) = (((rt NN DD).1 : Nat) : Int) := by
      rw [hF0, hF2, ← g1, g2]; exact (Int.ofNat_tmod _ _).symm
    rw [← hN, ← hDe] at hF1
    rw [← hDe] at hF2
    rw [← hN] at hF0
    have hNl := Nat.div_le_self NN (Nat.gcd NN DD)
    rw [hst] at hF1 hF2 r2
    have HS := Lib.hid (show ((rt (sm n (lgs n a) E (i + 1)) (dn n (i + 1))).1, (rt (sm n (lgs n a) E (i + 1)) (dn n (i + 1))).2) = rt (sm n (lgs n a) E (i + 1)) (dn n (i + 1)) from rfl)
    generalize hu' : (rt (sm n (lgs n a) E (i + 1)) (dn n (i + 1))).1 = u' at HS hF1 ⊢
    generalize hd' : (rt (sm n (lgs n a) E (i + 1)) (dn n (i + 1))).2 = d' at HS hF1 hF2 r2 ⊢
    generalize Nat.gcd NN DD = g at *
    clear hu' hd' hst hud HP g1 g2 ok hu el hXi hX
    repeat' ((conv => whnf); first | refine Ob.g ?_ | refine Cases.y ?_ | refine Cases.n ?_ | refine Idx.g rfl ?_ | refine Idx.z rfl ?_ | refine DrawOb.start ?_ | refine TryF.f ?_ | refine TryF.next rfl ?_ | refine TryF.other ?_ | refine TryA.g ?_ | refine TryA.next rfl ?_ | refine TryA.other ?_ | refine TryS.g ?_ | refine TryS.next rfl ?_ | refine TryS.other ?_ | refine TryG.g ?_ | refine TryG.next rfl ?_ | refine Sp.g (s2) ?_ | refine Sp.call (s3) (.cons (AvLe.int hN) (.cons (AvLe.int hDe) .nil)) rfl (AvLe.refl _) ?_)
    exact ⟨(i + 1, u', d'), [], ⟨hi, HS⟩, by show np n - (i + 1) < np n - i; omega, by
      refine ⟨?_, ?_, rfl⟩ <;> repeat (first | exact TmE.nil | exact OwnE.nil | refine TmE.cons (by first | exact AvLe.refl _ | exact AvLe.int (by omega) | exact AvLe.int hF1 | exact AvLe.int hF2) ?_ | refine OwnE.cons rfl (BlkLe.refl _) ?_)⟩
  · obtain rfl : i = np n := by omega
    have hP : P = (u, d) := HP.out.trans hud.symm
    subst hP
    repeat' ((conv => whnf); first | refine Ob.g ?_ | refine Cases.y ?_ | refine Cases.n ?_ | refine Idx.g rfl ?_ | refine Idx.z rfl ?_ | refine DrawOb.start ?_ | refine TryF.f ?_ | refine TryF.next rfl ?_ | refine TryF.other ?_ | refine TryA.g ?_ | refine TryA.next rfl ?_ | refine TryA.other ?_ | refine TryS.g ?_ | refine TryS.next rfl ?_ | refine TryS.other ?_ | refine TryG.g ?_ | refine TryG.next rfl ?_)
    refine ⟨⟨_, _, rfl, rfl, ?_⟩⟩
    exact AvLe.refl _
end Go.Proofs.YtedfcemebdlgfaaGreatDoor

/- Dirichlet characters: checks; values and orders of valid characters, walked. -/
namespace HP
def expOk (n : Nat) (X : Nat → Int) (i : Nat) : Bool := decide (0 ≤ X i) && decide (X i < (prtAt n i).o)
/-- the error of a character -/
def chkE (N : Int) (X : Nat → Int) (l : Nat) : Int := if N < 1 ∨ 60 < N then 2 else if np N.toNat ≠ l then 4 else if (List.range l).all (expOk N.toNat X) then 0 else 3
theorem all_range {n : Nat} {f : Nat → Bool} : (List.range n).all f = true ↔ ∀ i, i < n → f i = true := by
  rw [List.all_eq_true]
  exact ⟨fun h i hi => h i (List.mem_range.2 hi), fun h i hi => h i (List.mem_range.1 hi)⟩
/-- a valid character's exponents -/
structure ChOk (n : Nat) (X : Nat → Int) (l : Nat) (E : Nat → Nat) : Prop where
  n0 : 1 ≤ n
  n1 : n ≤ 60
  len : l = np n
  ex : ∀ i, i < np n → X i = E i ∧ E i < (prtAt n i).o
theorem chk_out {N : Int} {X : Nat → Int} {l : Nat} (h : chkE N X l = 0) : ∃ n : Nat, N = n ∧ ChOk n X l (fun i => (X i).toNat) := by
  unfold chkE at h
  split at h
  · cases h
  · split at h
    · cases h
    · next h1 h2 =>
      split at h
      · next h3 =>
        have h2 : np N.toNat = l := Decidable.not_not.1 h2
        refine ⟨N.toNat, by omega, by omega, by omega, h2.symm, fun i hi => ?_⟩
        have := all_range.1 h3 i (by omega)
        unfold expOk at this
        simp only [Bool.and_eq_true, decide_eq_true_eq] at this
        omega
      · cases h
end HP
namespace Go.Proofs.YtedfcemebdlgfaaGreatDoor
open Go Go.RowKit Go.VG HP
set_option maxHeartbeats 2000000 in
theorem value_sp0 (n : Nat) (X : Nat → Int) (l : Nat) (a : Int) (hn0 : 1 ≤ n) (hn : n ≤ 60) (hg : Int.gcd a n ≠ 1) (ha1 : -4611686018427387904 ≤ a) (ha2 : a ≤ 4611686018427387904) :
    Sp CX 62 [chA n X l, int .i64 a] (ruA true 0 0) := by
  have s0 := agcd_sp a n (by omega) (by omega) (by omega) (by omega)
  generalize Int.gcd a n = g at *
  refine fn_sp (C := CX) [] [] tysX_ok mixed Tryz.func62 rfl (by kernel_rfl) Tryz.ntmps62 rfl rfl ?_
  repeat' ((conv => whnf); first | refine Ob.g ?_ | refine Cases.y ?_ | refine Cases.n ?_ | refine Idx.g rfl ?_ | refine Idx.z rfl ?_ | refine DrawOb.start ?_ | refine TryF.f ?_ | refine TryF.next rfl ?_ | refine TryF.other ?_ | refine TryA.g ?_ | refine TryA.next rfl ?_ | refine TryA.other ?_ | refine TryS.g ?_ | refine TryS.next rfl ?_ | refine TryS.other ?_ | refine TryG.g ?_ | refine TryG.next rfl ?_ | refine Sp.g (s0) ?_)
  refine ⟨⟨_, _, rfl, rfl, ?_⟩⟩
  exact AvLe.refl _
set_option maxHeartbeats 4000000 in
theorem chk_sp (N : Int) (X : Nat → Int) (l : Nat) : Sp CX 60 [chA N X l] (int .i64 (chkE N X l)) := by
  by_cases h1 : N < 1 ∨ 60 < N
  · have e : chkE N X l = 2 := by unfold chkE; rw [if_pos h1]
    have s0 := dwi_f h1
    rw [e]
    refine fn_sp (C := CX) [] [] tysX_ok mixed Tryz.func60 rfl (by kernel_rfl) Tryz.ntmps60 rfl rfl ?_
    repeat' ((conv => whnf); first | refine Ob.g ?_ | refine Cases.y ?_ | refine Cases.n ?_ | refine Idx.g rfl ?_ | refine Idx.z rfl ?_ | refine DrawOb.start ?_ | refine TryF.f ?_ | refine TryF.next rfl ?_ | refine TryF.other ?_ | refine TryA.g ?_ | refine TryA.next rfl ?_ | refine TryA.other ?_ | refine TryS.g ?_ | refine TryS.next rfl ?_ | refine TryS.other ?_ | refine TryG.g ?_ | refine TryG.next rfl ?_ | refine Sp.g (s0) ?_)
    refine ⟨⟨_, _, rfl, rfl, ?_⟩⟩
    exact AvLe.refl _
  · obtain ⟨n, rfl⟩ : ∃ n : Nat, N = n := ⟨N.toNat, by omega⟩
    have hn0 : 1 ≤ n := by omega
    have hn : n ≤ 60 := by omega
    have s0 := dwi_t hn0 hn
    have s1 := parts_sp n (prtAt n) (np n) (fun i x h => by unfold prtAt; rw [List.getD_eq_getElem?_getD, h]; rfl) rfl hn0 hn
    have hl := np_le hn
    by_cases h2 : np n = l
    · subst h2
      obtain ⟨e, he⟩ : ∃ e, e = chkE n X (np n) := ⟨_, rfl⟩
      have he' := he
      unfold chkE at he'
      rw [if_neg h1, Int.toNat_natCast, if_neg (fun h => h rfl)] at he'
      rw [← he]
      have HE := Lib.hid he'
      clear he he' h1
      refine fn_sp (C := CX) [] [] tysX_ok mixed Tryz.func60 rfl (by kernel_rfl) Tryz.ntmps60 rfl rfl ?_
      repeat' ((conv => whnf); first | refine Ob.g ?_ | refine Cases.y ?_ | refine Cases.n ?_ | refine Idx.g rfl ?_ | refine Idx.z rfl ?_ | refine DrawOb.start ?_ | refine TryF.f ?_ | refine TryF.next rfl ?_ | refine TryF.other ?_ | refine TryA.g ?_ | refine TryA.next rfl ?_ | refine TryA.other ?_ | refine TryS.g ?_ | refine TryS.next rfl ?_ | refine TryS.other ?_ | refine TryG.g ?_ | refine TryG.next rfl ?_ | refine Sp.g (s0) ?_ | refine Sp.g (s1) ?_)
      refine ⟨⟨Nat, fun i => ⟨[(1, .v (.c (.loc 0 0))), (19, .v (.c (.sl 3 Prt prtL (prtAt n) (np n)))), (20, int .i64 (np n)), (21, int .i64 i)], [(0, .st [ix n, xsL X (np n)])], 1⟩, fun i => i ≤ np n ∧ ∀ j, j < i → expOk n X j = true, fun i => np n - i, ⟨0, [], ⟨Nat.zero_le _, fun j hj => absurd hj (Nat.not_lt_zero _)⟩, Ent.g⟩, ?_⟩⟩
      rintro i ⟨k1, k2⟩
      by_cases hi : i < np n
      · have ho := (prt_z hn hi).o60
        by_cases hx : 0 ≤ X i ∧ X i < (prtAt n i).o
        · have hk : ∀ j, j < i + 1 → expOk n X j = true := fun j hj => by
            by_cases hji : j = i
            · subst hji
              unfold expOk
              rw [decide_eq_true hx.1, decide_eq_true hx.2]; rfl
            · exact k2 j (by omega)
          clear k2
          have hx1 := hx.1
          have hx2 := hx.2
          repeat' ((conv => whnf); first | refine Ob.g ?_ | refine Cases.y ?_ | refine Cases.n ?_ | refine Idx.g rfl ?_ | refine Idx.z rfl ?_ | refine DrawOb.start ?_ | refine TryF.f ?_ | refine TryF.next rfl ?_ | refine TryF.other ?_ | refine TryA.g ?_ | refine TryA.next rfl ?_ | refine TryA.other ?_ | refine TryS.g ?_ | refine TryS.next rfl ?_ | refine TryS.other ?_ | refine TryG.g ?_ | refine TryG.next rfl ?_)
          exact ⟨i + 1, [], ⟨hi, hk⟩, by show np n - (i + 1) < np n - i; omega, Ent.g⟩
        · have he : e = 3 := by
            rw [HE.out, if_neg fun h => ?_]
            have := all_range.1 h i hi
            unfold expOk at this
            simp only [Bool.and_eq_true, decide_eq_true_eq] at this
            exact hx this
          subst he
          clear k2
          by_cases hx1 : X i < 0
          · repeat' ((conv => whnf); first | refine Ob.g ?_ | refine Cases.y ?_ | refine Cases.n ?_ | refine Idx.g rfl ?_ | refine Idx.z rfl ?_ | refine DrawOb.start ?_ | refine TryF.f ?_ | refine TryF.next rfl ?_ | refine TryF.other ?_ | refine TryA.g ?_ | refine TryA.next rfl ?_ | refine TryA.other ?_ | refine TryS.g ?_ | refine TryS.next rfl ?_ | refine TryS.other ?_ | refine TryG.g ?_ | refine TryG.next rfl ?_)
            refine ⟨⟨_, _, rfl, rfl, ?_⟩⟩
            exact AvLe.refl _
          · repeat' ((conv => whnf); first | refine Ob.g ?_ | refine Cases.y ?_ | refine Cases.n ?_ | refine Idx.g rfl ?_ | refine Idx.z rfl ?_ | refine DrawOb.start ?_ | refine TryF.f ?_ | refine TryF.next rfl ?_ | refine TryF.other ?_ | refine TryA.g ?_ | refine TryA.next rfl ?_ | refine TryA.other ?_ | refine TryS.g ?_ | refine TryS.next rfl ?_ | refine TryS.other ?_ | refine TryG.g ?_ | refine TryG.next rfl ?_)
            refine ⟨⟨_, _, rfl, rfl, ?_⟩⟩
            exact AvLe.refl _
      · obtain rfl : i = np n := by omega
        have he : e = 0 := by rw [HE.out, if_pos (all_range.2 k2)]
        subst he
        clear k2
        repeat' ((conv => whnf); first | refine Ob.g ?_ | refine Cases.y ?_ | refine Cases.n ?_ | refine Idx.g rfl ?_ | refine Idx.z rfl ?_ | refine DrawOb.start ?_ | refine TryF.f ?_ | refine TryF.next rfl ?_ | refine TryF.other ?_ | refine TryA.g ?_ | refine TryA.next rfl ?_ | refine TryA.other ?_ | refine TryS.g ?_ | refine TryS.next rfl ?_ | refine TryS.other ?_ | refine TryG.g ?_ | refine TryG.next rfl ?_)
        refine ⟨⟨_, _, rfl, rfl, ?_⟩⟩
        exact AvLe.refl _
    · have e : chkE n X l = 4 := by unfold chkE; rw [if_neg h1, Int.toNat_natCast, if_pos h2]
      rw [e]
      clear e h1
      refine fn_sp (C := CX) [] [] tysX_ok mixed Tryz.func60 rfl (by kernel_rfl) Tryz.ntmps60 rfl rfl ?_
      repeat' ((conv => whnf); first | refine Ob.g ?_ | refine Cases.y ?_ | refine Cases.n ?_ | refine Idx.g rfl ?_ | refine Idx.z rfl ?_ | refine DrawOb.start ?_ | refine TryF.f ?_ | refine TryF.next rfl ?_ | refine TryF.other ?_ | refine TryA.g ?_ | refine TryA.next rfl ?_ | refine TryA.other ?_ | refine TryS.g ?_ | refine TryS.next rfl ?_ | refine TryS.other ?_ | refine TryG.g ?_ | refine TryG.next rfl ?_ | refine Sp.g (s0) ?_ | refine Sp.g (s1) ?_)
      refine ⟨⟨_, _, rfl, rfl, ?_⟩⟩
      exact AvLe.refl _
end Go.Proofs.YtedfcemebdlgfaaGreatDoor

/- Dirichlet characters: Value, Order, trivial characters, walked. -/
namespace HP
def valR (n : Nat) (E : Nat → Nat) (a : Int) : Bool × Nat × Nat := if Int.gcd a n = 1 then (false, (chv n E a).1, (chv n E a).2) else (true, 0, 0)
/-- the order of a character -/
def oc (n : Nat) (E : Nat → Nat) : Nat → Nat
  | 0 => 1
  | i + 1 => oc n E i / Nat.gcd (oc n E i) ((prtAt n i).o / Nat.gcd (prtAt n i).o (E i)) * ((prtAt n i).o / Nat.gcd (prtAt n i).o (E i))
theorem oc_le {n : Nat} (hn : n ≤ 60) (E : Nat → Nat) : ∀ i, i ≤ np n → 1 ≤ oc n E i ∧ oc n E i ≤ 60 ^ i
  | 0, _ => ⟨Nat.le_refl _, Nat.le_refl _⟩
  | i + 1, h => by
    have ih := oc_le hn E i (by omega)
    have ok := part_ok hn (prtAt_mem (show i < np n by omega))
    have h1 : 1 ≤ (prtAt n i).o / Nat.gcd (prtAt n i).o (E i) := Nat.div_pos (Nat.le_of_dvd ok.o1 (Nat.gcd_dvd_left _ _)) (Nat.gcd_pos_of_pos_left _ ok.o1)
    have h2 : (prtAt n i).o / Nat.gcd (prtAt n i).o (E i) ≤ 60 := Nat.le_trans (Nat.div_le_self _ _) ok.o60
    have h3 : 1 ≤ oc n E i / Nat.gcd (oc n E i) ((prtAt n i).o / Nat.gcd (prtAt n i).o (E i)) := Nat.div_pos (Nat.le_of_dvd ih.1 (Nat.gcd_dvd_left _ _)) (Nat.gcd_pos_of_pos_left _ ih.1)
    refine ⟨Nat.mul_le_mul h3 h1, ?_⟩
    rw [Nat.pow_succ]
    exact Nat.mul_le_mul (Nat.le_trans (Nat.div_le_self _ _) ih.2) h2
def okv (n : Nat) (E : Nat → Nat) (a : Int) : Bool := (valR n E a).1 || Nat.beq (valR n E a).2.1 0
/-- 1 at all units that are 1 modulo f -/
def trv (n : Nat) (E : Nat → Nat) (f : Nat) : Bool := (List.range n).all fun j => decide (n < 1 + j * f) || okv n E ((1 + j * f : Nat) : Int)
end HP
namespace Go.Proofs.YtedfcemebdlgfaaGreatDoor
open Go Go.RowKit Go.VG HP
def ruT (p : Bool × Nat × Nat) : V1 := .agg [.x (.bool p.1), ix p.2.1, ix p.2.2]
theorem val_sp {n : Nat} {E : Nat → Nat} {X : Nat → Int} {l : Nat} (c : ChOk n X l E) (a : Int) (ha1 : -4611686018427387904 ≤ a) (ha2 : a ≤ 4611686018427387904) : Sp CX 62 [chA n X l, int .i64 a] (.v (ruT (valR n E a))) := by
  obtain ⟨n0, n1, rfl, ex⟩ := c
  by_cases hg : Int.gcd a n = 1
  · have := value_sp n E X a n0 n1 ex hg ha1 ha2
    unfold valR
    rw [if_pos hg]
    exact this
  · have := value_sp0 n X (np n) a n0 n1 hg ha1 ha2
    unfold valR
    rw [if_neg hg]
    exact this
def vR (N : Int) (X : Nat → Int) (l : Nat) (a : Int) : (Bool × Nat × Nat) × Int :=
  if chkE N X l ≠ 0 then ((false, 0, 0), chkE N X l) else if a < -1073741824 ∨ 1073741824 < a then ((false, 0, 0), 2) else (valR N.toNat (fun i => (X i).toNat) a, 0)
set_option maxHeartbeats 2000000 in
theorem Value_sp (N : Int) (X : Nat → Int) (l : Nat) (a : Int) : Sp CX 33 [chA N X l, int .i64 a] (.tup [ruT (vR N X l a).1, .c (ix (vR N X l a).2)]) := by
  have s0 := chk_sp N X l
  by_cases hc : chkE N X l = 0
  · obtain ⟨n, rfl, ok⟩ := chk_out hc
    rw [hc] at s0
    by_cases hr : a < -1073741824 ∨ 1073741824 < a
    · have e : vR n X l a = ((false, 0, 0), 2) := by unfold vR; rw [if_neg (by rw [hc]; simp), if_pos hr]
      rw [e]
      clear e ok hc
      by_cases h1 : a < -1073741824
      · refine fn_sp (C := CX) [] [] tysX_ok mixed Tryz.func33 rfl (by kernel_rfl) Tryz.ntmps33 rfl rfl ?_
        repeat' ((conv => whnf); first | refine Ob.g ?_ | refine Cases.y ?_ | refine Cases.n ?_ | refine Idx.g rfl ?_ | refine Idx.z rfl ?_ | refine DrawOb.start ?_ | refine TryF.f ?_ | refine TryF.next rfl ?_ | refine TryF.other ?_ | refine TryA.g ?_ | refine TryA.next rfl ?_ | refine TryA.other ?_ | refine TryS.g ?_ | refine TryS.next rfl ?_ | refine TryS.other ?_ | refine TryG.g ?_ | refine TryG.next rfl ?_ | refine Sp.g (s0) ?_)
        refine ⟨⟨_, _, rfl, rfl, ?_⟩⟩
        exact AvLe.refl _
      · refine fn_sp (C := CX) [] [] tysX_ok mixed Tryz.func33 rfl (by kernel_rfl) Tryz.ntmps33 rfl rfl ?_
        repeat' ((conv => whnf); first | refine Ob.g ?_ | refine Cases.y ?_ | refine Cases.n ?_ | refine Idx.g rfl ?_ | refine Idx.z rfl ?_ | refine DrawOb.start ?_ | refine TryF.f ?_ | refine TryF.next rfl ?_ | refine TryF.other ?_ | refine TryA.g ?_ | refine TryA.next rfl ?_ | refine TryA.other ?_ | refine TryS.g ?_ | refine TryS.next rfl ?_ | refine TryS.other ?_ | refine TryG.g ?_ | refine TryG.next rfl ?_ | refine Sp.g (s0) ?_)
        refine ⟨⟨_, _, rfl, rfl, ?_⟩⟩
        exact AvLe.refl _
    · have e : vR n X l a = (valR n (fun i => (X i).toNat) a, 0) := by unfold vR; rw [if_neg (by rw [hc]; simp), if_neg hr]; rfl
      rw [e]
      have s1 := val_sp ok a (by omega) (by omega)
      generalize valR n (fun i => (X i).toNat) a = v at *
      clear e ok hc
      refine fn_sp (C := CX) [] [] tysX_ok mixed Tryz.func33 rfl (by kernel_rfl) Tryz.ntmps33 rfl rfl ?_
      repeat' ((conv => whnf); first | refine Ob.g ?_ | refine Cases.y ?_ | refine Cases.n ?_ | refine Idx.g rfl ?_ | refine Idx.z rfl ?_ | refine DrawOb.start ?_ | refine TryF.f ?_ | refine TryF.next rfl ?_ | refine TryF.other ?_ | refine TryA.g ?_ | refine TryA.next rfl ?_ | refine TryA.other ?_ | refine TryS.g ?_ | refine TryS.next rfl ?_ | refine TryS.other ?_ | refine TryG.g ?_ | refine TryG.next rfl ?_ | refine Sp.g (s0) ?_ | refine Sp.g (s1) ?_)
      refine ⟨⟨_, _, rfl, rfl, ?_⟩⟩
      exact AvLe.refl _
  · have e : vR N X l a = ((false, 0, 0), chkE N X l) := by unfold vR; rw [if_pos hc]
    rw [e]
    generalize chkE N X l = e at *
    refine fn_sp (C := CX) [] [] tysX_ok mixed Tryz.func33 rfl (by kernel_rfl) Tryz.ntmps33 rfl rfl ?_
    repeat' ((conv => whnf); first | refine Ob.g ?_ | refine Cases.y ?_ | refine Cases.n ?_ | refine Idx.g rfl ?_ | refine Idx.z rfl ?_ | refine DrawOb.start ?_ | refine TryF.f ?_ | refine TryF.next rfl ?_ | refine TryF.other ?_ | refine TryA.g ?_ | refine TryA.next rfl ?_ | refine TryA.other ?_ | refine TryS.g ?_ | refine TryS.next rfl ?_ | refine TryS.other ?_ | refine TryG.g ?_ | refine TryG.next rfl ?_ | refine Sp.g (s0) ?_)
    refine ⟨⟨_, _, rfl, rfl, ?_⟩⟩
    exact AvLe.refl _
set_option maxHeartbeats 4000000 in
theorem trv_sp {n : Nat} {E : Nat → Nat} {X : Nat → Int} {l : Nat} (c : ChOk n X l E) (f : Nat) (hf0 : 1 ≤ f) (hf : f ≤ 60) : Sp CX 82 [chA n X l, int .i64 f] (bool (trv n E f)) := by
  have n1 := c.n1
  obtain ⟨t, ht⟩ : ∃ t, t = trv n E f := ⟨_, rfl⟩
  rw [← ht]
  have HT := Lib.hid ht
  clear ht
  refine fn_sp (C := CX) [] [] tysX_ok mixed Tryz.func82 rfl (by kernel_rfl) Tryz.ntmps82 rfl rfl ?_
  repeat' ((conv => whnf); first | refine Ob.g ?_ | refine Cases.y ?_ | refine Cases.n ?_ | refine Idx.g rfl ?_ | refine Idx.z rfl ?_ | refine DrawOb.start ?_ | refine TryF.f ?_ | refine TryF.next rfl ?_ | refine TryF.other ?_ | refine TryA.g ?_ | refine TryA.next rfl ?_ | refine TryA.other ?_ | refine TryS.g ?_ | refine TryS.next rfl ?_ | refine TryS.other ?_ | refine TryG.g ?_ | refine TryG.next rfl ?_)
  refine ⟨⟨Nat × Nat, fun (_, a) => ⟨[(1, int .i64 f), (2, .v (.c (.loc 0 0))), (5, int .i64 a)], [(0, .st [ix n, xsL X l])], 1⟩, fun (j, a) => a = 1 + j * f ∧ ∀ i, i < j → 1 + i * f ≤ n → okv n E ((1 + i * f : Nat) : Int) = true, fun (_, a) => n + 61 - a, ⟨(0, 1), [], ⟨by omega, fun i hi => absurd hi (Nat.not_lt_zero _)⟩, Ent.g⟩, ?_⟩⟩
  rintro ⟨j, a⟩ ⟨ha, k2⟩
  by_cases hd : a ≤ n
  · have s := val_sp c (a : Int) (by omega) (by omega)
    have hj : okv n E (a : Int) = ((valR n E a).1 || Nat.beq (valR n E a).2.1 0) := rfl
    cases hz : (valR n E a).1 with
    | true =>
      have hn : a + f = 1 + (j + 1) * f ∧ ∀ i, i < j + 1 → 1 + i * f ≤ n → okv n E ((1 + i * f : Nat) : Int) = true := ⟨by rw [Nat.add_mul]; omega, fun i hi hin => by
        by_cases hij : i = j
        · subst hij; rw [← ha, hj, hz]; rfl
        · exact k2 i (by omega) hin⟩
      clear k2 hj ha
      generalize valR n E a = v at *
      repeat' ((conv => whnf); first | refine Ob.g ?_ | refine Cases.y ?_ | refine Cases.n ?_ | refine Idx.g rfl ?_ | refine Idx.z rfl ?_ | refine DrawOb.start ?_ | refine TryF.f ?_ | refine TryF.next rfl ?_ | refine TryF.other ?_ | refine TryA.g ?_ | refine TryA.next rfl ?_ | refine TryA.other ?_ | refine TryS.g ?_ | refine TryS.next rfl ?_ | refine TryS.other ?_ | refine TryG.g ?_ | refine TryG.next rfl ?_ | refine Sp.g (s) ?_)
      exact ⟨(j + 1, a + f), [], hn, by show n + 61 - (a + f) < n + 61 - a; omega, Ent.g⟩
    | false =>
      by_cases h0 : (valR n E a).2.1 = 0
      · have hn : a + f = 1 + (j + 1) * f ∧ ∀ i, i < j + 1 → 1 + i * f ≤ n → okv n E ((1 + i * f : Nat) : Int) = true := ⟨by rw [Nat.add_mul]; omega, fun i hi hin => by
          by_cases hij : i = j
          · subst hij; rw [← ha, hj, h0, Nat.beq_refl, Bool.or_true]
          · exact k2 i (by omega) hin⟩
        clear k2 hj ha
        generalize valR n E a = v at *
        repeat' ((conv => whnf); first | refine Ob.g ?_ | refine Cases.y ?_ | refine Cases.n ?_ | refine Idx.g rfl ?_ | refine Idx.z rfl ?_ | refine DrawOb.start ?_ | refine TryF.f ?_ | refine TryF.next rfl ?_ | refine TryF.other ?_ | refine TryA.g ?_ | refine TryA.next rfl ?_ | refine TryA.other ?_ | refine TryS.g ?_ | refine TryS.next rfl ?_ | refine TryS.other ?_ | refine TryG.g ?_ | refine TryG.next rfl ?_ | refine Sp.g (s) ?_)
        exact ⟨(j + 1, a + f), [], hn, by show n + 61 - (a + f) < n + 61 - a; omega, Ent.g⟩
      · have ht : t = false := by
          rw [HT.out]
          unfold trv
          rw [List.all_eq_false]
          refine ⟨j, List.mem_range.2 ?_, ?_⟩
          · have := Nat.le_mul_of_pos_right j hf0
            omega
          · rw [← ha, hj, hz, Bool.false_or, decide_eq_false (by omega), Bool.false_or]
            intro h
            exact h0 (Nat.eq_of_beq_eq_true h)
        subst ht
        clear k2 hj ha HT
        generalize valR n E a = v at *
        repeat' ((conv => whnf); first | refine Ob.g ?_ | refine Cases.y ?_ | refine Cases.n ?_ | refine Idx.g rfl ?_ | refine Idx.z rfl ?_ | refine DrawOb.start ?_ | refine TryF.f ?_ | refine TryF.next rfl ?_ | refine TryF.other ?_ | refine TryA.g ?_ | refine TryA.next rfl ?_ | refine TryA.other ?_ | refine TryS.g ?_ | refine TryS.next rfl ?_ | refine TryS.other ?_ | refine TryG.g ?_ | refine TryG.next rfl ?_ | refine Sp.g (s) ?_)
        refine ⟨⟨_, _, rfl, rfl, ?_⟩⟩
        exact AvLe.refl _
  · have ht : t = true := by
      rw [HT.out]
      unfold trv
      rw [List.all_eq_true]
      intro i hi
      rw [Bool.or_eq_true, decide_eq_true_eq]
      by_cases hin : 1 + i * f ≤ n
      · right
        refine k2 i ?_ hin
        apply Nat.lt_of_not_le
        intro hji
        have := Nat.mul_le_mul_right f hji
        omega
      · left; omega
    subst ht
    clear k2 HT
    repeat' ((conv => whnf); first | refine Ob.g ?_ | refine Cases.y ?_ | refine Cases.n ?_ | refine Idx.g rfl ?_ | refine Idx.z rfl ?_ | refine DrawOb.start ?_ | refine TryF.f ?_ | refine TryF.next rfl ?_ | refine TryF.other ?_ | refine TryA.g ?_ | refine TryA.next rfl ?_ | refine TryA.other ?_ | refine TryS.g ?_ | refine TryS.next rfl ?_ | refine TryS.other ?_ | refine TryG.g ?_ | refine TryG.next rfl ?_)
    refine ⟨⟨_, _, rfl, rfl, ?_⟩⟩
    exact AvLe.refl _
end Go.Proofs.YtedfcemebdlgfaaGreatDoor

/- Dirichlet characters: order, conductor, parity, walked. -/
namespace Go.Proofs.YtedfcemebdlgfaaGreatDoor
open Go Go.RowKit Go.VG HP
end Go.Proofs.YtedfcemebdlgfaaGreatDoor

/- Dirichlet characters: conductor, parity, walked. -/
namespace HP
theorem lg_one_chk : allB 61 (fun n => (prts n).all fun P => lg P (1 % P.q) == 0) = true := by decide +kernel
theorem sm_zero (n : Nat) (L E : Nat → Nat) : ∀ i, (∀ j, j < i → L j = 0) → sm n L E i = 0
  | 0, _ => rfl
  | i + 1, h => by rw [sm, sm_zero n L E i fun j hj => h j (by omega), h i (by omega), Nat.mul_zero, Nat.zero_mul, Nat.zero_mul]
theorem okv_one {n : Nat} (hn : n ≤ 60) (E : Nat → Nat) : okv n E 1 = true := by
  have h1 : Int.gcd 1 n = 1 := by simp
  have h2 : sm n (lgs n 1) E (np n) = 0 := sm_zero n _ E _ fun j hj => by
    have h := List.all_eq_true.1 (allB_at lg_one_chk (show n < 61 by omega)) _ (prtAt_mem hj)
    simp only [beq_iff_eq] at h
    have e : rs 1 (prtAt n j).q = 1 % (prtAt n j).q := by
      unfold rs
      have : ((1 : Int) % ((prtAt n j).q : Int)) = ((1 % (prtAt n j).q : Nat) : Int) := by norm_cast
      rw [this]; rfl
    unfold lgs
    rw [e]; exact h
  have h3 : (chv n E 1).1 = 0 := by
    unfold chv
    rw [h2]
    exact (rt_zero (dn_pos hn _ (Nat.le_refl _))).2 (Nat.zero_mod _)
  unfold okv valR
  rw [if_pos h1, h3]; rfl
theorem trv_self {n : Nat} (_hn0 : 1 ≤ n) (hn : n ≤ 60) (E : Nat → Nat) : trv n E n = true := by
  unfold trv
  rw [List.all_eq_true]
  intro j _
  rcases Nat.eq_zero_or_pos j with rfl | h
  · rw [Nat.zero_mul, Bool.or_eq_true]; exact .inr (okv_one hn E)
  · rw [Bool.or_eq_true, decide_eq_true_eq]
    left
    have := Nat.le_mul_of_pos_left n h
    omega
/-- the conductor -/
def cndI (n : Nat) (E : Nat → Nat) : Nat := ((List.range (dvs n).length).find? fun i => trv n E ((dvs n).getD i 0)).getD 0
def cnd (n : Nat) (E : Nat → Nat) : Nat := (dvs n).getD (cndI n E) 0
theorem cndI_spec {n : Nat} (hn0 : 1 ≤ n) (hn : n ≤ 60) (E : Nat → Nat) : cndI n E < (dvs n).length ∧ trv n E (cnd n E) = true ∧ ∀ j, j < cndI n E → trv n E ((dvs n).getD j 0) = false := by
  have hex : ∃ i, i < (dvs n).length ∧ trv n E ((dvs n).getD i 0) = true := by
    have hm : n ∈ dvs n := (dvs_mem hn0).2 (Nat.dvd_refl n)
    obtain ⟨i, hi, he⟩ := List.mem_iff_getElem.1 hm
    refine ⟨i, hi, ?_⟩
    rw [List.getD_eq_getElem?_getD, List.getElem?_eq_getElem hi, he]
    exact trv_self hn0 hn E
  obtain ⟨i, hi, ht⟩ := hex
  cases hf : (List.range (dvs n).length).find? fun i => trv n E ((dvs n).getD i 0) with
  | none =>
    have := List.find?_eq_none.1 hf i (List.mem_range.2 hi)
    exact absurd ht this
  | some k =>
    have e : cndI n E = k := by unfold cndI; rw [hf]; rfl
    have h1 := List.find?_some hf
    have h2 := List.mem_range.1 (List.mem_of_find?_eq_some hf)
    unfold cnd
    rw [e]
    refine ⟨h2, h1, fun j hj => ?_⟩
    obtain ⟨la, lb, hab, hno⟩ := (List.find?_eq_some_iff_append.1 hf).2
    have hlen : la.length = k := by
      have h3 : (List.range (dvs n).length)[la.length]? = some k := by rw [hab, List.getElem?_append_right (Nat.le_refl _), Nat.sub_self]; rfl
      have h4 := (List.getElem?_eq_some_iff.1 h3)
      obtain ⟨h5, h6⟩ := h4
      rw [List.getElem_range] at h6
      exact h6
    have hmem : j ∈ la := by
      have h3 : (List.range (dvs n).length)[j]? = la[j]? := by rw [hab, List.getElem?_append_left (by omega)]
      rw [List.getElem?_range (by omega)] at h3
      exact List.mem_of_getElem? h3.symm
    simpa using hno j hmem
end HP
namespace Go.Proofs.YtedfcemebdlgfaaGreatDoor
open Go Go.RowKit Go.VG HP
theorem plain_bool (t : Bool) : PlainAv (bool t) := ⟨fun _ _ _ _ _ h => h⟩
set_option maxHeartbeats 1000000 in
theorem idxF_sp (Z : Nat → Nat) (m : Nat) (hm : m ≤ 1000) (A : Int → Prop) (p : Int → Bool) (i0 : Nat) (hi0 : i0 < m) (hA : ∀ i, i < m → A (Z i)) (h1 : p (Z i0) = true) (h0 : ∀ j, j < i0 → p (Z j) = false) :
    Sp CX 80 [.v (nsA Z m), .v (.c (.p (FnR CX A fun a => bool (p a))))] (int .i64 i0) := by
  refine fn_sp (C := CX) [] [] tysX_ok mixed Tryz.func80 rfl (by kernel_rfl) Tryz.ntmps80 rfl rfl ?_
  repeat' ((conv => whnf); first | refine Ob.g ?_ | refine Cases.y ?_ | refine Cases.n ?_ | refine Idx.g rfl ?_ | refine Idx.z rfl ?_ | refine DrawOb.start ?_ | refine TryF.f ?_ | refine TryF.next rfl ?_ | refine TryF.other ?_ | refine TryA.g ?_ | refine TryA.next rfl ?_ | refine TryA.other ?_ | refine TryS.g ?_ | refine TryS.next rfl ?_ | refine TryS.other ?_ | refine TryG.g ?_ | refine TryG.next rfl ?_)
  refine ⟨⟨Nat, fun i => ⟨[(0, .v (nsA Z m)), (1, .v (.c (.p (FnR CX A fun a => bool (p a))))), (7, int .i64 m), (8, int .i64 i)], [], 0⟩, fun i => i ≤ i0, fun i => i0 - i, ⟨0, [], Nat.zero_le _, Ent.g⟩, ?_⟩⟩
  intro i hi
  by_cases hd : i = i0
  · subst hd
    repeat' ((conv => whnf); first | refine Ob.g ?_ | refine Cases.y ?_ | refine Cases.n ?_ | refine Idx.g rfl ?_ | refine Idx.z rfl ?_ | refine DrawOb.start ?_ | refine TryF.f ?_ | refine TryF.next rfl ?_ | refine TryF.other ?_ | refine TryA.g ?_ | refine TryA.next rfl ?_ | refine TryA.other ?_ | refine TryS.g ?_ | refine TryS.next rfl ?_ | refine TryS.other ?_ | refine TryG.g ?_ | refine TryG.next rfl ?_ | (refine FnR.call (hA _ (by omega)) ?_))
    refine ⟨⟨_, _, rfl, rfl, AvLe.int ?_⟩⟩
    rfl
  · have hp := h0 i (by omega)
    repeat' ((conv => whnf); first | refine Ob.g ?_ | refine Cases.y ?_ | refine Cases.n ?_ | refine Idx.g rfl ?_ | refine Idx.z rfl ?_ | refine DrawOb.start ?_ | refine TryF.f ?_ | refine TryF.next rfl ?_ | refine TryF.other ?_ | refine TryA.g ?_ | refine TryA.next rfl ?_ | refine TryA.other ?_ | refine TryS.g ?_ | refine TryS.next rfl ?_ | refine TryS.other ?_ | refine TryG.g ?_ | refine TryG.next rfl ?_ | (refine FnR.call (hA _ (by omega)) ?_))
    exact ⟨i + 1, [], (by omega : i + 1 ≤ i0), by show i0 - (i + 1) < i0 - i; omega, Ent.g⟩
theorem cond1_sp {n : Nat} {E : Nat → Nat} {X : Nat → Int} {l : Nat} (c : ChOk n X l E) (f : Nat) (hf0 : 1 ≤ f) (hf : f ≤ 60) : Sp CX 81 [int .i64 f, .v (.c (.ptr 2 fun j => getL [ix n, xsL X l] (0 + j)))] (bool (trv n E f)) := by
  have s := trv_sp c f hf0 hf
  generalize trv n E f = t at *
  refine fn_sp (C := CX) [] [] tysX_ok mixed Tryz.func81 rfl (by kernel_rfl) Tryz.ntmps81 rfl rfl ?_
  repeat' ((conv => whnf); first | refine Ob.g ?_ | refine Cases.y ?_ | refine Cases.n ?_ | refine Idx.g rfl ?_ | refine Idx.z rfl ?_ | refine DrawOb.start ?_ | refine TryF.f ?_ | refine TryF.next rfl ?_ | refine TryF.other ?_ | refine TryA.g ?_ | refine TryA.next rfl ?_ | refine TryA.other ?_ | refine TryS.g ?_ | refine TryS.next rfl ?_ | refine TryS.other ?_ | refine TryG.g ?_ | refine TryG.next rfl ?_ | refine Sp.g (s) ?_)
  refine ⟨⟨_, _, rfl, rfl, ?_⟩⟩
  exact AvLe.refl _
set_option maxHeartbeats 2000000 in
theorem conductor_sp {n : Nat} {E : Nat → Nat} {X : Nat → Int} {l : Nat} (c : ChOk n X l E) : Sp CX 61 [chA n X l] (int .i64 (cnd n E)) := by
  have n0 := c.n0
  have n1 := c.n1
  have s0 := divisors_sp n (fun i => (dvs n).getD i 0) (dvs n).length (fun i x h => by simp [List.getD_eq_getElem?_getD, h]) rfl n0 (by omega)
  have hl : (dvs n).length ≤ 61 := by
    unfold dvs
    exact Nat.le_trans (List.length_filter_le _ _) (by simp; omega)
  obtain ⟨i1, i2, i3⟩ := cndI_spec n0 n1 E
  have hA : ∀ i, i < (dvs n).length → (1 ≤ (((dvs n).getD i 0 : Nat) : Int) ∧ (((dvs n).getD i 0 : Nat) : Int) ≤ 60) := fun i hi => by
    have hm : (dvs n).getD i 0 ∈ dvs n := by
      rw [List.getD_eq_getElem?_getD, List.getElem?_eq_getElem hi]
      exact List.getElem_mem hi
    have hd := (dvs_mem n0).1 hm
    have := Nat.le_of_dvd n0 hd
    have := Nat.pos_of_dvd_of_pos hd n0
    omega
  have s1 := idxF_sp (fun i => (dvs n).getD i 0) (dvs n).length (by omega) (fun a => 1 ≤ a ∧ a ≤ 60) (fun a => trv n E a.toNat) (cndI n E) i1 hA i2 i3
  have sF : ∀ a : Int, (1 ≤ a ∧ a ≤ 60) → Sp CX 81 (int .i64 a :: [.v (.c (.ptr 2 fun j => getL [ix n, xsL X l] (0 + j)))]) (bool (trv n E a.toNat)) := fun a ha => by
    obtain ⟨k, rfl⟩ : ∃ k : Nat, a = k := ⟨a.toNat, by omega⟩
    exact cond1_sp c k (by omega) (by omega)
  have hok : CallOk CX.P 81 := callOk Tryz.func81 (by kernel_rfl) (by kernel_rfl)
  have hc : cnd n E = (fun i => (dvs n).getD i 0) (cndI n E) := rfl
  rw [hc]
  generalize cndI n E = i at *
  clear i2 i3 hA c
  refine fn_sp (C := CX) [(1000002,0)] [] tysX_ok mixed Tryz.func61 rfl (by kernel_rfl) Tryz.ntmps61 rfl rfl ?_
  repeat' ((conv => whnf); first | refine Ob.g ?_ | refine Cases.y ?_ | refine Cases.n ?_ | refine Idx.g rfl ?_ | refine Idx.z rfl ?_ | refine DrawOb.start ?_ | refine TryF.f ?_ | refine TryF.next rfl ?_ | refine TryF.other ?_ | refine TryA.g ?_ | refine TryA.next rfl ?_ | refine TryA.other ?_ | refine TryS.g ?_ | refine TryS.next rfl ?_ | refine TryS.other ?_ | refine TryG.g ?_ | refine TryG.next rfl ?_ | refine Sp.g (s0) ?_ | (refine FnR.mk (fun a => 1 ≤ a ∧ a ≤ 60) (fun a => bool (trv n E a.toNat)) hok sF (fun _ _ => plain_bool _) ?_) | refine Sp.g (s1) ?_)
  refine ⟨⟨_, _, rfl, rfl, ?_⟩⟩
  exact AvLe.refl _
theorem Conductor_sp (N : Int) (X : Nat → Int) (l : Nat) : Sp CX 29 [chA N X l] (.tup [.c (ix (if chkE N X l = 0 then (cnd N.toNat (fun i => (X i).toNat) : Nat) else 0)), .c (ix (chkE N X l))]) := by
  have s0 := chk_sp N X l
  by_cases hc : chkE N X l = 0
  · obtain ⟨n, rfl, ok⟩ := chk_out hc
    rw [if_pos hc, hc, Int.toNat_natCast]
    rw [hc] at s0
    have s1 := conductor_sp ok
    generalize cnd n (fun i => (X i).toNat) = r at *
    refine fn_sp (C := CX) [] [] tysX_ok mixed Tryz.func29 rfl (by kernel_rfl) Tryz.ntmps29 rfl rfl ?_
    repeat' ((conv => whnf); first | refine Ob.g ?_ | refine Cases.y ?_ | refine Cases.n ?_ | refine Idx.g rfl ?_ | refine Idx.z rfl ?_ | refine DrawOb.start ?_ | refine TryF.f ?_ | refine TryF.next rfl ?_ | refine TryF.other ?_ | refine TryA.g ?_ | refine TryA.next rfl ?_ | refine TryA.other ?_ | refine TryS.g ?_ | refine TryS.next rfl ?_ | refine TryS.other ?_ | refine TryG.g ?_ | refine TryG.next rfl ?_ | refine Sp.g (s0) ?_ | refine Sp.g (s1) ?_)
    refine ⟨⟨_, _, rfl, rfl, ?_⟩⟩
    exact AvLe.refl _
  · rw [if_neg hc]
    generalize chkE N X l = e at *
    refine fn_sp (C := CX) [] [] tysX_ok mixed Tryz.func29 rfl (by kernel_rfl) Tryz.ntmps29 rfl rfl ?_
    repeat' ((conv => whnf); first | refine Ob.g ?_ | refine Cases.y ?_ | refine Cases.n ?_ | refine Idx.g rfl ?_ | refine Idx.z rfl ?_ | refine DrawOb.start ?_ | refine TryF.f ?_ | refine TryF.next rfl ?_ | refine TryF.other ?_ | refine TryA.g ?_ | refine TryA.next rfl ?_ | refine TryA.other ?_ | refine TryS.g ?_ | refine TryS.next rfl ?_ | refine TryS.other ?_ | refine TryG.g ?_ | refine TryG.next rfl ?_ | refine Sp.g (s0) ?_)
    refine ⟨⟨_, _, rfl, rfl, ?_⟩⟩
    exact AvLe.refl _
theorem Even_sp (N : Int) (X : Nat → Int) (l : Nat) : Sp CX 30 [chA N X l] (.tup [.c (.x (.bool (decide (chkE N X l = 0) && decide ((valR N.toNat (fun i => (X i).toNat) (-1)).2.1 = 0)))), .c (ix (chkE N X l))]) := by
  have s0 := chk_sp N X l
  by_cases hc : chkE N X l = 0
  · obtain ⟨n, rfl, ok⟩ := chk_out hc
    rw [decide_eq_true hc, hc, Int.toNat_natCast, Bool.true_and]
    rw [hc] at s0
    have s1 := val_sp ok (-1) (by omega) (by omega)
    have e : decide ((valR n (fun i => (X i).toNat) (-1)).2.1 = 0) = decide ((((valR n (fun i => (X i).toNat) (-1)).2.1 : Nat) : Int) = 0) := by
      rw [decide_eq_decide]; omega
    rw [e]
    generalize valR n (fun i => (X i).toNat) (-1) = r at *
    refine fn_sp (C := CX) [] [] tysX_ok mixed Tryz.func30 rfl (by kernel_rfl) Tryz.ntmps30 rfl rfl ?_
    repeat' ((conv => whnf); first | refine Ob.g ?_ | refine Cases.y ?_ | refine Cases.n ?_ | refine Idx.g rfl ?_ | refine Idx.z rfl ?_ | refine DrawOb.start ?_ | refine TryF.f ?_ | refine TryF.next rfl ?_ | refine TryF.other ?_ | refine TryA.g ?_ | refine TryA.next rfl ?_ | refine TryA.other ?_ | refine TryS.g ?_ | refine TryS.next rfl ?_ | refine TryS.other ?_ | refine TryG.g ?_ | refine TryG.next rfl ?_ | refine Sp.g (s0) ?_ | refine Sp.g (s1) ?_)
    refine ⟨⟨_, _, rfl, rfl, ?_⟩⟩
    exact AvLe.refl _
  · rw [decide_eq_false hc, Bool.false_and]
    generalize chkE N X l = e at *
    refine fn_sp (C := CX) [] [] tysX_ok mixed Tryz.func30 rfl (by kernel_rfl) Tryz.ntmps30 rfl rfl ?_
    repeat' ((conv => whnf); first | refine Ob.g ?_ | refine Cases.y ?_ | refine Cases.n ?_ | refine Idx.g rfl ?_ | refine Idx.z rfl ?_ | refine DrawOb.start ?_ | refine TryF.f ?_ | refine TryF.next rfl ?_ | refine TryF.other ?_ | refine TryA.g ?_ | refine TryA.next rfl ?_ | refine TryA.other ?_ | refine TryS.g ?_ | refine TryS.next rfl ?_ | refine TryS.other ?_ | refine TryG.g ?_ | refine TryG.next rfl ?_ | refine Sp.g (s0) ?_)
    refine ⟨⟨_, _, rfl, rfl, ?_⟩⟩
    exact AvLe.refl _
end Go.Proofs.YtedfcemebdlgfaaGreatDoor

