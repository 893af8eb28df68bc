/- The reference's trace formula in letters: Err, power, value, Main, series, roots. -/
import Derived.Test.YtdjfndfkjbjcpaaGreatDoorRhA
import Derived.Test.YtdjfndfkjbjcpaaGreatDoorTcE
import Derived.Test.YtdjfndfkjbjcpaaGreatDoorPkTrA
import Derived.Test.YtdjfndfkjbjcpaaGreatDoorPkVgY
namespace Go.Proofs.YtdjfndfkjbjcpaaGreatDoor
open Go Go.RowKit Go.VG HP
theorem rErr32_sp (L K D n : Int) : Sp CX 21 [specA L K D, int .i64 n] (int .i64 (trE L K D n)) := by
  have s := checkr_sp L K D
  unfold trE
  by_cases h1 : dchk L K D = 0
  · rw [if_neg (fun x => x h1)]
    rw [h1] at s
    obtain ⟨N, k, rfl, rfl, ok⟩ := dchk_out h1
    have hN := ok.n1
    clear h1 ok
    by_cases h2 : n < 1 ∨ 128 < n
    · rw [if_pos h2]
      by_cases h3 : n < 1
      · refine fn_sp (C := CX) [] [] tysX_ok mixed Tryz.func21 rfl (by kernel_rfl) Tryz.ntmps21 rfl rfl ?_
        repeat' ((conv => whnf); first | refine Je ?_ | refine Jf ?_ | refine Jy s ?_)
        refine ⟨⟨_, _, rfl, rfl, ?_⟩⟩
        exact AvLe.refl _
      · refine fn_sp (C := CX) [] [] tysX_ok mixed Tryz.func21 rfl (by kernel_rfl) Tryz.ntmps21 rfl rfl ?_
        repeat' ((conv => whnf); first | refine Je ?_ | refine Jf ?_ | refine Jy s ?_)
        refine ⟨⟨_, _, rfl, rfl, ?_⟩⟩
        exact AvLe.refl _
    · rw [if_neg h2]
      have g := gcd18Z n N (by omega) (by omega)
      by_cases h4 : Int.gcd n N = 1
      · rw [if_pos h4]
        rw [h4] at g
        refine fn_sp (C := CX) [] [] tysX_ok mixed Tryz.func21 rfl (by kernel_rfl) Tryz.ntmps21 rfl rfl ?_
        repeat' ((conv => whnf); first | refine Jf ?_ | refine Jy s ?_ | refine Jy g ?_)
        refine ⟨⟨_, _, rfl, rfl, ?_⟩⟩
        exact AvLe.refl _
      · rw [if_neg h4]
        generalize Int.gcd n N = G at *
        refine fn_sp (C := CX) [] [] tysX_ok mixed Tryz.func21 rfl (by kernel_rfl) Tryz.ntmps21 rfl rfl ?_
        repeat' ((conv => whnf); first | refine Je ?_ | refine Jf ?_ | refine Jy s ?_ | refine Jy g ?_)
        refine ⟨⟨_, _, rfl, rfl, ?_⟩⟩
        exact AvLe.refl _
  · rw [if_pos h1]
    generalize dchk L K D = e at *
    refine fn_sp (C := CX) [] [] tysX_ok mixed Tryz.func21 rfl (by kernel_rfl) Tryz.ntmps21 rfl rfl ?_
    repeat' ((conv => whnf); first | refine Je ?_ | refine Jy s ?_)
    refine ⟨⟨_, _, rfl, rfl, ?_⟩⟩
    exact AvLe.refl _
set_option maxHeartbeats 4000000 in
theorem rpower_sp (a : Int) (n : Nat) (ha : ln a.natAbs ≤ 1) (h1 : -9223372036854775808 ≤ a) (h2 : a ≤ 9223372036854775807) (hn : n ≤ 64) : Sp CX 57 [int .i64 a, int .i64 n] (qA ((a ^ n : Int) : Rat)) := by
  have q1 := bQ_sp 1 (by omega) (by omega)
  have qa := bQ_sp a h1 h2
  obtain ⟨T, hT⟩ : ∃ T, T = a ^ n := ⟨_, rfl⟩
  rw [← hT]
  refine fn_sp (C := CX) [] [] tysX_ok mixed Tryz.func57 rfl (by kernel_rfl) Tryz.ntmps57 rfl rfl ?_
  repeat' ((conv => whnf); first | refine Ja ?_ | refine Jy q1 ?_)
  refine ⟨⟨Nat × Int, fun (j, o) => ⟨[(0, int .i64 a), (1, int .i64 ((n : Int) - j)), (4, .v (.c (.loc 0 0))), (5, .v (.c (.loc 1 0)))], [(0, .st rZs), (1, .st (rLs ((o : Int) : Rat)))], 2⟩, fun (j, o) => j ≤ n ∧ o = a ^ j, fun (j, _) => n - j, ⟨(0, 1), [], ⟨Nat.zero_le _, (Int.pow_zero a).symm⟩, ?_⟩, ?_⟩⟩
  · refine ⟨?_, ?_, rfl⟩
    · exact .cons (.refl _) (.cons (.int (by omega)) (.cons (.refl _) (.cons (.refl _) .nil)))
    · exact .cons rfl (.refl _) (.cons rfl (.refl _) .nil)
  rintro ⟨j, o⟩ ⟨hj, ho⟩
  by_cases hc : j < n
  · have lo : ln o.natAbs ≤ 70 := by rw [ho]; have := ln_pow ha j; omega
    have m := Mul2_sp ((o : Int) : Rat) ((a : Int) : Rat) ((QB.int lo (by omega)).mono (by omega)) ((QB.int (k := 1) ha (by omega)).mono (by omega))
    rw [← Rat.intCast_mul] at m
    have e : o * a = a ^ (j + 1) := by rw [ho, Int.pow_succ]
    clear hT q1 ho
    repeat' ((conv => whnf); first | refine Jb ?_ | refine Je ?_ | refine Ji ?_ | refine Jj ?_ | refine Jk rfl ?_ | refine Jy qa ?_ | refine Jy m ?_)
    exact ⟨(j + 1, o * a), [], ⟨by omega, e⟩, by show n - (j + 1) < n - j; omega, by
      refine ⟨?_, ?_, rfl⟩
      · exact .cons (.refl _) (.cons (.int (by omega)) (.cons (.refl _) (.cons (.refl _) .nil)))
      · exact .cons rfl (.refl _) (.cons rfl (.refl _) .nil)⟩
  · obtain rfl : j = n := by omega
    obtain rfl : o = T := by rw [hT, ho]
    clear hT q1 qa ho
    repeat' ((conv => whnf); first | refine Jf ?_)
    refine ⟨⟨_, _, rfl, rfl, ?_⟩⟩
    exact AvLe.refl _
theorem jac_red {N a : Nat} {Δ : Int} (hN : 1 ≤ N) (z : Δ ≠ 0) (h4 : Δ % 4 = 0 ∨ Δ % 4 = 1) (dv : Δ.natAbs ∣ N) (ha : 1 ≤ a) : 1 ≤ redN N a ∧ redN N a ≤ N ∧ jac Δ (redN N a) = jac Δ a := by
  obtain ⟨r1, r2, r3⟩ := redN_spec (N := N) (y := a) hN
  exact ⟨r1, r2, jac_cong z h4 dv r1 ha r3⟩
theorem rvalue_sp (N k a : Nat) (Δ : Int) (hN : 1 ≤ N) (hN2 : N ≤ 120) (d1 : -120 ≤ Δ) (d2 : Δ ≤ 120) (z : Δ ≠ 0) (h4 : Δ % 4 = 0 ∨ Δ % 4 = 1) (dv : Δ.natAbs ∣ N) (ha : 1 ≤ a) (ha2 : a ≤ 100000) : Sp CX 54 [specA N k Δ, int .i64 a] (int .i64 (jac Δ a)) := by
  obtain ⟨r1, r2, r3⟩ := jac_red hN z h4 dv ha
  have m := bmodQ_sp a N (by omega) (by omega) (by omega) (by omega)
  have e : (a : Int) % N = ((a % N : Nat) : Int) := (Int.natCast_emod a N).symm
  rw [e] at m
  have k1 := kron28_sp Δ (redN N a) (by omega) (by omega) r1 (by omega)
  rw [r3] at k1
  have er : redN N a = if a % N = 0 then N else a % N := by
    unfold redN
    by_cases h : a % N = 0
    · rw [beq_t h, if_pos h]; rfl
    · rw [beq_f h, if_neg h]; rfl
  have ml := Nat.mod_lt a (show 0 < N by omega)
  generalize redN N a = R at *
  generalize jac Δ a = J at *
  generalize a % N = r at *
  refine fn_sp (C := CX) [] [] tysX_ok mixed Tryz.func54 rfl (by kernel_rfl) Tryz.ntmps54 rfl rfl ?_
  repeat' ((conv => whnf); first | refine Ja ?_ | refine Jy m ?_)
  refine ⟨⟨Nat, fun v => ⟨[(1, int .i64 v), (2, .v (.c (.loc 0 0)))], [(0, .st [ix N, ix k, ix Δ])], 1⟩, fun v => v = r ∨ (r = 0 ∧ v = N), fun v => if v = 0 then 1 else 0, ⟨r, [], .inl rfl, Ent.g⟩, ?_⟩⟩
  rintro v hv
  by_cases h0 : v = 0
  · have hr : r = 0 := by omega
    repeat' ((conv => whnf); first | refine Je ?_)
    exact ⟨N, [], .inr ⟨hr, rfl⟩, by show (if N = 0 then 1 else 0) < (if v = 0 then 1 else 0); rw [if_neg (by omega), if_pos h0]; omega, Ent.g⟩
  · have hR : v = R := by
      rw [er]
      split <;> omega
    subst hR
    repeat' ((conv => whnf); first | refine Jf ?_ | refine Jy k1 ?_)
    refine ⟨⟨_, _, rfl, rfl, ?_⟩⟩
    exact AvLe.refl _
theorem rt_uniq {n m : Nat} (h1 : 1 ≤ n) (h2 : n ≤ 128) (hm : m * m = n) : m = rtN n := by
  obtain ⟨r1, r2, r3, r4⟩ := rtN_spec h1 h2
  by_cases h : m < rtN n
  · have := r4 m h
    omega
  · by_cases h' : rtN n < m
    · have := Nat.mul_lt_mul_of_lt_of_le h' (Nat.le_of_lt h') (by omega : 0 < m)
      omega
    · omega
set_option maxHeartbeats 8000000 in
theorem rMain_sp (N k n : Nat) (Δ : Int) (ok : DOk N k Δ) (n1 : 1 ≤ n) (n2 : n ≤ 128) (hg : Nat.gcd n N = 1) : Sp CX 22 [specA N k Δ, int .i64 n] (qA (tw (mainN N k Δ n))) := by
  obtain ⟨hN1, hN, hk1, hk, d1, d2, dz, h4, _, dv, _, _⟩ := ok
  have q0 := bQ_sp 0 (by omega) (by omega)
  obtain ⟨T, hT⟩ : ∃ T, T = tw (mainN N k Δ n) := ⟨_, rfl⟩
  rw [← hT]
  refine fn_sp (C := CX) [] [] tysX_ok mixed Tryz.func22 rfl (by kernel_rfl) Tryz.ntmps22 rfl rfl ?_
  repeat' ((conv => whnf); first | refine Ja ?_)
  refine ⟨⟨Nat, fun m => ⟨[(1, int .i64 n), (2, .v (.c (.loc 0 0))), (4, .v (.c (.loc 1 0))), (5, int .i64 m)], [(0, .st [ix N, ix k, ix Δ]), (1, .st rZs)], 2⟩, fun m => 1 ≤ m ∧ m ≤ n + 1 ∧ ∀ j, j < m → j * j ≠ n, fun m => n + 1 - m, ⟨1, [], ⟨by omega, by omega, fun j hj => by (obtain rfl : j = 0 := (by omega)); omega⟩, Ent.g⟩, ?_⟩⟩
  rintro m ⟨m1, m2, hm⟩
  have em : (m : Int) * m = ((m * m : Nat) : Int) := (Int.natCast_mul ..).symm
  by_cases hc : m ≤ n
  · have bm : m * m ≤ 128 * 128 := Nat.mul_le_mul (by omega) (by omega)
    by_cases hs : m * m = n
    · have hr := rt_uniq n1 n2 hs
      have r12 : m ≤ 12 := by have := (rtN_spec n1 n2).2.1; omega
      have gm : Nat.gcd m N = 1 := cop_sub hg ⟨m, hs.symm⟩
      obtain ⟨p1, p2⟩ := psi_sm hN1 hN
      have hJ : chiZ N Δ m = jac Δ m := by unfold chiZ; rw [if_pos gm]
      have ch := jac_tri Δ m m1
      have mq := mainQ N k Δ m
      have hT2 : T = tw (mainZ N k Δ m) := by rw [hT]; unfold mainN; rw [← hr, if_pos hs]
      rw [← hT2, hJ] at mq
      have vs := rvalue_sp N k m Δ hN1 hN d1 d2 dz h4 dv m1 (by omega)
      have ps := psi21_sp N hN1 (by omega)
      have x1 : -23 ≤ jac Δ m * ((k : Int) - 1) ∧ jac Δ m * ((k : Int) - 1) ≤ 23 := by
        rcases ch with e | e | e <;> rw [e] <;> omega
      have x2 : (jac Δ m * ((k : Int) - 1) * psi N).natAbs ≤ 23 * 400 := abs_mul (by omega) (by omega)
      have pw := rpower_sp m (k - 2) (ln_of (k := 1) (by show _ < 4294967296; omega)) (by omega) (by omega) (by omega)
      have lX : ln ((m : Int) ^ (k - 2)).natAbs ≤ 100 := by have := ln_pow (a := (m : Int)) (ln_of (k := 1) (by show _ < 4294967296; omega)) (k - 2); omega
      generalize (m : Int) ^ (k - 2) = X at *
      have fr := FracQ_sp (jac Δ m * ((k : Int) - 1) * psi N) 12 (by omega) (by omega) (by omega) (by omega)
      have lx : ln (jac Δ m * ((k : Int) - 1) * psi N).natAbs ≤ 2 := ln_two (by omega)
      have l12 : ln (12 : Int).natAbs ≤ 2 := ln_two (by decide)
      have qb := QB.divInt (d := 12) (by omega) lx l12
      have ml := Mul2_sp (Rat.divInt (jac Δ m * ((k : Int) - 1) * psi N) 12) ((X : Int) : Rat) (qb.mono (by omega)) ((QB.int lX (by omega)).mono (by omega))
      rw [mq] at ml
      clear mq hT hT2 q0 ch lX lx l12 qb hJ hr hm
      generalize Rat.divInt (jac Δ m * ((k : Int) - 1) * psi N) 12 = Y at *
      generalize jac Δ m = c at *
      generalize psi N = P at *
      repeat' ((conv => whnf); first | refine Jb ?_ | refine Je ?_ | refine Ji ?_ | refine Jj ?_ | refine Jk rfl ?_ | refine Jl ?_ | refine Jo ?_ | refine Jp ?_ | refine Jq rfl ?_ | refine Jy vs ?_ | refine Jy ps ?_ | refine Jy fr ?_ | refine Sp.call (pw) (.cons (.refl _) (.cons (.int (by omega)) .nil)) rfl (AvLe.refl _) ?_ | refine Jy ml ?_)
      refine ⟨⟨_, _, rfl, rfl, ?_⟩⟩
      exact AvLe.refl _
    · have nm : ∀ j, j < m + 1 → j * j ≠ n := fun j hj => by
        by_cases e : j = m
        · subst e; exact hs
        · exact hm j (by omega)
      clear hT q0 hm
      repeat' ((conv => whnf); first | refine Jb ?_ | refine Je ?_ | refine Jf ?_)
      exact ⟨m + 1, [], ⟨by omega, by omega, nm⟩, by show n + 1 - (m + 1) < n + 1 - m; omega, Ent.g⟩
  · have hr : ¬ rtN n * rtN n = n := by
      obtain ⟨r1, r2, r3, r4⟩ := rtN_spec n1 n2
      by_cases h : rtN n < m
      · exact hm _ h
      · have := r4 n (by omega)
        have := Nat.mul_le_mul (show 1 ≤ n from n1) (Nat.le_refl n)
        omega
    have e : T = ((0 : Int) : Rat) := by rw [hT]; unfold mainN; rw [if_neg hr, tw_zero]
    subst e
    clear hT hm hr
    repeat' ((conv => whnf); first | refine Jf ?_ | refine Jy q0 ?_)
    refine ⟨⟨_, _, rfl, rfl, ?_⟩⟩
    exact AvLe.refl _
set_option maxHeartbeats 8000000 in
theorem rseries_sp (t n : Int) (j : Nat) (ht : t.natAbs ≤ 127) (hn : n.natAbs ≤ 128) (hj : j ≤ 22) : Sp CX 61 [int .i64 t, int .i64 n, int .i64 j] (qA (((pk t n j).2 : Int) : Rat)) := by
  have q0 := bQ_sp 0 (by omega) (by omega)
  have q1 := bQ_sp 1 (by omega) (by omega)
  have qt := bQ_sp t (by omega) (by omega)
  have qn := bQ_sp n (by omega) (by omega)
  refine fn_sp (C := CX) [] [] tysX_ok mixed Tryz.func61 rfl (by kernel_rfl) Tryz.ntmps61 rfl rfl ?_
  repeat' ((conv => whnf); first | refine Ja ?_ | refine Jy q0 ?_ | refine Jy q1 ?_)
  refine ⟨⟨Nat × Int × Int, fun (i, l, p) => ⟨[(0, int .i64 t), (1, int .i64 n), (2, int .i64 j), (6, .v (.c (.loc 0 0))), (7, .v (.c (.loc 1 0))), (8, .v (.c (.loc 2 0))), (9, int .i64 i)], [(0, .st rZs), (1, .st (rLs ((l : Int) : Rat))), (2, .st (rLs ((p : Int) : Rat)))], 3⟩, fun (i, l, p) => i ≤ j ∧ pk t n i = (l, p), fun (i, _, _) => j - i, ⟨(0, 0, 1), [], ⟨Nat.zero_le _, rfl⟩, Ent.g⟩, ?_⟩⟩
  rintro ⟨i, l, p⟩ ⟨hi, e⟩
  clear q0 q1
  by_cases hc : i < j
  · obtain ⟨b1, b2⟩ := pk_22 ht hn (show i ≤ 22 by omega)
    rw [e] at b1 b2
    have l1 : ln l.natAbs ≤ 6 := ln256 b1
    have l2 : ln p.natAbs ≤ 6 := ln256 b2
    have lt : ln t.natAbs ≤ 2 := ln_two (by omega)
    have lnn : ln n.natAbs ≤ 2 := ln_two (by omega)
    have e2 : pk t n (i + 1) = (p, t * p - n * l) := by show ((pk t n i).2, t * (pk t n i).2 - n * (pk t n i).1) = _; rw [e]
    have x1 : ln (t * p).natAbs ≤ 10 := by rw [Int.natAbs_mul]; have := ln_mul t.natAbs p.natAbs; omega
    have x2 : ln (n * l).natAbs ≤ 10 := by rw [Int.natAbs_mul]; have := ln_mul n.natAbs l.natAbs; omega
    have m1 := Mul2_sp ((t : Int) : Rat) ((p : Int) : Rat) ((QB.int lt (by omega)).mono (by omega)) ((QB.int l2 (by omega)).mono (by omega))
    have m2 := Mul2_sp ((n : Int) : Rat) ((l : Int) : Rat) ((QB.int lnn (by omega)).mono (by omega)) ((QB.int l1 (by omega)).mono (by omega))
    rw [← Rat.intCast_mul] at m1 m2
    have s := Sub2_sp ((t * p : Int) : Rat) ((n * l : Int) : Rat) ((QB.int x1 (by omega)).mono (by omega)) ((QB.int x2 (by omega)).mono (by omega))
    rw [← Rat.intCast_sub] at s
    clear e b1 b2
    repeat' ((conv => whnf); first | refine Jb ?_ | refine Je ?_ | refine Ji ?_ | refine Jj ?_ | refine Jk rfl ?_ | refine Jy qt ?_ | refine Jy qn ?_ | refine Jy m1 ?_ | refine Jy m2 ?_ | refine Jy s ?_)
    exact ⟨(i + 1, p, t * p - n * l), [], ⟨by omega, e2⟩, by show j - (i + 1) < j - i; omega, Ent.g⟩
  · obtain rfl : i = j := by omega
    rw [e]
    clear e
    repeat' ((conv => whnf); first | refine Jf ?_)
    refine ⟨⟨_, _, rfl, rfl, ?_⟩⟩
    exact AvLe.refl _
set_option maxHeartbeats 8000000 in
set_option maxRecDepth 20000 in
theorem rroots_sp (N k e n : Nat) (Δ t : Int) (hN1 : 1 ≤ N) (hN : N ≤ 120) (d1 : -120 ≤ Δ) (d2 : Δ ≤ 120) (z : Δ ≠ 0) (h4 : Δ % 4 = 0 ∨ Δ % 4 = 1) (dv : Δ.natAbs ∣ N) (n2 : n ≤ 128) (ht : t.natAbs ≤ 127) (e1 : 1 ≤ e) (e2 : e ≤ 22) : Sp CX 60 [specA N k Δ, int .i64 t, int .i64 n, int .i64 e] (int .i64 (locZ N e Δ t n)) := by
  have gg := gcd18Z N e (by omega) (by omega)
  have ee : Int.gcd N e = Nat.gcd N e := rfl
  rw [ee] at gg
  have g1 : 1 ≤ Nat.gcd N e := Nat.gcd_pos_of_pos_left _ (by omega)
  have g2 : Nat.gcd N e ≤ 22 := Nat.le_trans (Nat.le_of_dvd (by omega) (Nat.gcd_dvd_right _ _)) e2
  have gd : Nat.gcd N e ∣ N := Nat.gcd_dvd_left _ _
  have q1 := psi_quo (e := e) hN1 hN
  unfold locZ
  generalize Nat.gcd N e = g at *
  obtain ⟨T, hT⟩ : ∃ T, T = locS N g Δ t n N := ⟨_, rfl⟩
  rw [← hT]
  refine fn_sp (C := CX) [] [] tysX_ok mixed Tryz.func60 rfl (by kernel_rfl) Tryz.ntmps60 rfl rfl ?_
  repeat' ((conv => whnf); first | refine Ja ?_ | refine Jy gg ?_)
  refine ⟨⟨Nat × Int, fun (m, s) => ⟨[(1, int .i64 t), (2, int .i64 n), (4, .v (.c (.loc 0 0))), (9, int .i64 g), (10, int .i64 s), (11, int .i64 ((m : Int) + 1))], [(0, .st [ix N, ix k, ix Δ])], 1⟩, fun (m, s) => m ≤ N ∧ s = locS N g Δ t n m, fun (m, _) => N - m, ⟨(0, 0), [], ⟨Nat.zero_le _, rfl⟩, Ent.g⟩, ?_⟩⟩
  rintro ⟨m, s⟩ ⟨hm, hs⟩
  have sb := locS_bd N g Δ t n m
  rw [← hs] at sb
  by_cases hc : m < N
  · have ga := gcd18Z ((m : Int) + 1) N (by omega) (by omega)
    have gae : Int.gcd ((m : Int) + 1) N = Nat.gcd (m + 1) N := rfl
    rw [gae] at ga
    have nx : locS N g Δ t n (m + 1) = s + if lifts N g t n (m + 1) g = true then chiZ N Δ (m + 1) else 0 := by rw [locS, ← hs]
    clear hs hT gg q1
    by_cases hu : Nat.gcd (m + 1) N = 1
    · have vs := rvalue_sp N k (m + 1) Δ hN1 hN d1 d2 z h4 dv (by omega) (by omega)
      have hJ : chiZ N Δ (m + 1) = jac Δ (m + 1) := by unfold chiZ; rw [if_pos hu]
      rw [hJ] at nx
      have tr := jac_tri Δ (m + 1) (by omega)
      rw [hu] at ga
      generalize jac Δ (m + 1) = c at *
      have cb : -1 ≤ c ∧ c ≤ 1 := by rcases tr with e | e | e <;> omega
      clear tr hJ
      repeat' ((conv => whnf); first | refine Je ?_ | refine Jf ?_ | refine Jy ga ?_)
      refine ⟨⟨Nat × Bool, fun (j, b) => ⟨[(1, int .i64 t), (2, int .i64 n), (4, .v (.c (.loc 0 0))), (9, int .i64 g), (10, int .i64 s), (11, int .i64 ((m : Int) + 1)), (12, bool b), (13, int .i64 j)], [(0, .st [ix N, ix k, ix Δ])], 1⟩, fun (j, b) => j ≤ g ∧ lifts N g t n (m + 1) j = b, fun (j, _) => g - j, ⟨(0, false), [], ⟨Nat.zero_le _, rfl⟩, Ent.g⟩, ?_⟩⟩
      rintro ⟨j, b⟩ ⟨hj, hl⟩
      by_cases hcj : j < g
      · have eN : (j : Int) * N = ((N * j : Nat) : Int) := by rw [Int.mul_comm]; exact (Int.natCast_mul ..).symm
        have bN : N * j ≤ 120 * 22 := Nat.mul_le_mul hN (by omega)
        have eG : (N : Int) * g = ((N * g : Nat) : Int) := (Int.natCast_mul ..).symm
        have bG : N * g ≤ 120 * 22 := Nat.mul_le_mul hN g2
        have pG : 0 < N * g := Nat.mul_pos (by omega) (by omega)
        cases b with
        | true =>
          have ls : lifts N g t n (m + 1) (j + 1) = true := by rw [lifts, hl, Bool.true_or]
          clear nx hl vs
          repeat' ((conv => whnf); first | refine Jb ?_ | refine Je ?_)
          exact ⟨(j + 1, true), [], ⟨hcj, ls⟩, by show g - (j + 1) < g - j; omega, Ent.g⟩
        | false =>
          have ls : lifts N g t n (m + 1) (j + 1) = decide (((N * g : Nat) : Int) ∣ fq t n (((m + 1 : Nat) : Int) + (N : Int) * (j : Int))) := by rw [lifts, hl, Bool.false_or]
          obtain ⟨b, hb⟩ : ∃ b : Int, b = (m : Int) + 1 + (j : Int) * N := ⟨_, rfl⟩
          have b1 : 0 ≤ b ∧ b ≤ 3000 := by omega
          have bb := mulbz (x := b) (y := b) (X := 3000) (Y := 3000) (by omega) (by omega)
          have tb := mulbz (x := t) (y := b) (X := 127) (Y := 3000) (by omega) (by omega)
          have lq : lifts N g t n (m + 1) (j + 1) = decide ((b * b - t * b + (n : Int)).tmod ((N : Int) * g) = 0) := by
            rw [ls]
            refine decide_eq_decide.2 ?_
            rw [tmod_dvd, eG, show ((m + 1 : Nat) : Int) + (N : Int) * (j : Int) = b by rw [hb, Int.mul_comm (j : Int)]; omega]
            rfl
          clear ls nx hl vs
          rw [hb] at bb tb lq
          by_cases hz : (((m : Int) + 1 + (j : Int) * N) * ((m : Int) + 1 + (j : Int) * N) - t * ((m : Int) + 1 + (j : Int) * N) + (n : Int)).tmod ((N : Int) * g) = 0
          · rw [decide_eq_true hz] at lq
            repeat' ((conv => whnf); first | refine Ja ?_ | refine Jb ?_ | refine Je ?_ | refine Jf ?_)
            exact ⟨(j + 1, true), [], ⟨hcj, lq⟩, by show g - (j + 1) < g - j; omega, by
              refine ⟨?_, ?_, rfl⟩
              · exact .cons (.refl _) (.cons (.refl _) (.cons (.refl _) (.cons (.refl _) (.cons (.refl _) (.cons (.refl _) (.cons (.bool (decide_eq_true hz)) (.cons (.refl _) .nil)))))))
              · exact .cons rfl (.refl _) .nil⟩
          · rw [decide_eq_false hz] at lq
            repeat' ((conv => whnf); first | refine Ja ?_ | refine Jb ?_ | refine Je ?_ | refine Jf ?_)
            exact ⟨(j + 1, false), [], ⟨hcj, lq⟩, by show g - (j + 1) < g - j; omega, by
              refine ⟨?_, ?_, rfl⟩
              · exact .cons (.refl _) (.cons (.refl _) (.cons (.refl _) (.cons (.refl _) (.cons (.refl _) (.cons (.refl _) (.cons (.bool (decide_eq_false hz)) (.cons (.refl _) .nil)))))))
              · exact .cons rfl (.refl _) .nil⟩
      · obtain rfl : j = g := by omega
        rw [hl] at nx
        clear hl
        cases b with
        | true =>
          rw [if_pos rfl] at nx
          repeat' ((conv => whnf); first | refine Jb ?_ | refine Je ?_ | refine Jf ?_ | refine Sp.call (vs) (.cons (.refl _) (.cons (.int (by omega)) .nil)) rfl (AvLe.refl _) ?_)
          exact ⟨(m + 1, s + c), [], ⟨by omega, nx.symm⟩, by show N - (m + 1) < N - m; omega, Ent.g⟩
        | false =>
          rw [if_neg Bool.false_ne_true, Int.add_zero] at nx
          repeat' ((conv => whnf); first | refine Jb ?_ | refine Jf ?_)
          exact ⟨(m + 1, s), [], ⟨by omega, nx.symm⟩, by show N - (m + 1) < N - m; omega, Ent.g⟩
    · have c0 : chiZ N Δ (m + 1) = 0 := by unfold chiZ; rw [if_neg hu]
      have nx2 : locS N g Δ t n (m + 1) = s := by rw [nx, c0]; split <;> omega
      clear nx c0
      generalize Nat.gcd (m + 1) N = G at *
      repeat' ((conv => whnf); first | refine Jb ?_ | refine Je ?_ | refine Jy ga ?_)
      exact ⟨(m + 1, s), [], ⟨by omega, nx2.symm⟩, by show N - (m + 1) < N - m; omega, Ent.g⟩
  · obtain rfl : m = N := by omega
    obtain rfl : s = T := by rw [hT, hs]
    have p1 := psi21_sp m hN1 (by omega)
    have hd1 : 1 ≤ m / g := Nat.div_pos (Nat.le_of_dvd (by omega) gd) (by omega)
    have hd2 : m / g ≤ 120 := Nat.le_trans (Nat.div_le_self _ _) hN
    have p2 := psi21_sp (m / g) hd1 (by omega)
    obtain ⟨x1, x2⟩ := psi_sm hN1 hN
    obtain ⟨y1, y2⟩ := psi_sm hd1 hd2
    have et : (m : Int).tdiv g = ((m / g : Nat) : Int) := (Int.ofNat_tdiv m g).symm
    have eq : (psi m).tdiv (psi (m / g)) = psi m / psi (m / g) := Int.tdiv_eq_ediv_of_nonneg (by omega)
    have eo : psi (m / g) ≠ 0 ∧ InK .i64 ((psi m).tdiv (psi (m / g))) := ⟨by omega, by rw [eq]; show -9223372036854775808 ≤ psi m / psi (m / g) ∧ _ ≤ 9223372036854775807; omega⟩
    have bm := mulbz (x := psi m / psi (m / g)) (y := s) (X := 400) (Y := 120) (by omega) (by omega)
    rw [← eq] at bm ⊢
    clear hT hs eq q1 gg
    have eg := tdivOb (x := m) (y := g) (by omega) (by omega)
    generalize psi (m / g) = Y at *
    generalize psi m = X at *
    repeat' ((conv => whnf); first | (refine Ob.mk eg ?_) | (refine Ob.mk eo ?_) | refine Jb ?_ | refine Jf ?_ | refine Ji ?_ | refine Jj ?_ | refine Jk rfl ?_ | refine Jy p1 ?_ | refine Sp.call (p2) (.cons (.int et) .nil) rfl (AvLe.refl _) ?_)
    refine ⟨⟨_, _, rfl, rfl, ?_⟩⟩
    exact AvLe.refl _
end Go.Proofs.YtdjfndfkjbjcpaaGreatDoor
