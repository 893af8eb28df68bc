/- Own texts joined: TcA, TcB, TcC, TcD. -/
import Derived.Test.YtdjfndfkjbjcpaaGreatDoorPkQfA
import Derived.Test.YtdjfndfkjbjcpaaGreatDoorAriF
/- The trace formula in letters: psi, half, power, chi, mainTerm, coefficient. -/
namespace Go.Proofs.YtdjfndfkjbjcpaaGreatDoor
open Go Go.RowKit Go.VG HP
def fmA (N k : Nat) (Δ n : Int) : AV := .v (.agg [ix N, ix k, ix Δ, ix n])
theorem tpsi_sp (N : Nat) (h1 : 1 ≤ N) (h2 : N ≤ 120) : Sp CX 37 [int .i64 N] (int .i64 (psi N)) := by
  have p := psi_sp N h1 (by omega)
  generalize psi N = P at *
  refine fn_sp (C := CX) [] [] tysX_ok mixed Tryz.func37 rfl (by kernel_rfl) Tryz.ntmps37 rfl rfl ?_
  repeat' ((conv => whnf); first | refine Ja ?_ | refine Jy p ?_)
  refine ⟨⟨_, _, rfl, rfl, ?_⟩⟩
  exact AvLe.refl _
theorem half_sp (q : Rat) (h : QB 10000 q) : Sp CX 43 [qA q] (qA (q / ((2 : Int) : Rat))) := by
  have o := ROf_sp 2 (by omega) (by omega)
  have d := RQuo_sp q ((2 : Int) : Rat) (by decide) (h.mono (by omega)) (QB.i64 (by omega) (by omega) |>.mono (by omega))
  generalize q / ((2 : Int) : Rat) = Y at *
  refine fn_sp (C := CX) [] [] tysX_ok mixed Tryz.func43 rfl (by kernel_rfl) Tryz.ntmps43 rfl rfl ?_
  repeat' ((conv => whnf); first | refine Ji ?_ | refine Jk rfl ?_ | refine Jl ?_ | refine Jo ?_ | refine Jp ?_ | refine Jq rfl ?_ | refine Jy o ?_ | refine Jy d ?_)
  refine ⟨⟨_, _, rfl, rfl, ?_⟩⟩
  exact AvLe.refl _
theorem power_sp (a : Int) (k : Nat) (h1 : 0 ≤ a) (h2 : a ≤ 1000000) (hk : k ≤ 64) : Sp CX 39 [int .i64 a, int .i64 k] (qA ((a ^ k : Int) : Rat)) := by
  have o := ROf_sp a (by omega) (by omega)
  have p := RPow_sp a k (ln_of (k := 1) (by show a.natAbs < 4294967296; omega)) hk
  generalize a ^ k = X at *
  refine fn_sp (C := CX) [] [] tysX_ok mixed Tryz.func39 rfl (by kernel_rfl) Tryz.ntmps39 rfl rfl ?_
  repeat' ((conv => whnf); first | refine Ja ?_ | refine Jy o ?_ | refine Jy p ?_)
  refine ⟨⟨_, _, rfl, rfl, ?_⟩⟩
  exact AvLe.refl _
theorem tchi_sp (N k : Nat) (Δ n : Int) (a : Nat) (h1 : 1 ≤ a) (h2 : a ≤ 1000000000) (hN : N ≤ 120) (d1 : -120 ≤ Δ) (d2 : Δ ≤ 120) : Sp CX 36 [fmA N k Δ n, int .i64 a] (int .i64 (chiZ N Δ a)) := by
  have g := gcdI_sp a N (by omega) (by omega)
  have e : Int.gcd a N = Nat.gcd a N := rfl
  rw [e] at g
  have kr := kron_sp Δ a (by omega) (by omega) (by omega) (by omega)
  rw [kro_nat h1] at kr
  have tr := jac_tri Δ a h1
  unfold chiZ
  generalize jac Δ a = J at *
  by_cases h : Nat.gcd a N = 1
  · rw [if_pos h]
    rw [h] at g
    refine fn_sp (C := CX) [] [] tysX_ok mixed Tryz.func36 rfl (by kernel_rfl) Tryz.ntmps36 rfl rfl ?_
    repeat' ((conv => whnf); first | refine Jf ?_ | refine Jy g ?_ | refine Jy kr ?_)
    refine ⟨⟨_, _, rfl, rfl, ?_⟩⟩
    exact AvLe.refl _
  · rw [if_neg h]
    generalize Nat.gcd a N = G at *
    refine fn_sp (C := CX) [] [] tysX_ok mixed Tryz.func36 rfl (by kernel_rfl) Tryz.ntmps36 rfl rfl ?_
    repeat' ((conv => whnf); first | refine Je ?_ | refine Jy g ?_ | refine Jy kr ?_)
    refine ⟨⟨_, _, rfl, rfl, ?_⟩⟩
    exact AvLe.refl _
def iLs (z : Int) : List Leaf := [.x (.bool (decide (z < 0))), dsL z.natAbs (ln z.natAbs)]
def iZs : List Leaf := [.x (.bool false), .x (.slice none 0 0)]
def rLs (q : Rat) : List Leaf := [.x (.bool (decide (q.num < 0))), dsL q.num.natAbs (ln q.num.natAbs), .x (.bool (decide ((q.den : Int) < 0))), dsL (q.den : Int).natAbs (ln (q.den : Int).natAbs)]
def rZs : List Leaf := [.x (.bool false), .x (.slice none 0 0), .x (.bool false), .x (.slice none 0 0)]
def fmL (N k : Nat) (Δ n : Int) : List Leaf := [ix N, ix k, ix Δ, ix n]
theorem ln256 {z : Int} (h : z.natAbs ≤ 256 ^ 22) : ln z.natAbs ≤ 6 := ln_of (Nat.lt_of_le_of_lt h (by decide))
set_option maxHeartbeats 4000000 in
theorem coef_sp (N k : Nat) (Δ n t : Int) (hk1 : 2 ≤ k) (hk : k ≤ 24) (ht : t.natAbs ≤ 127) (hn : n.natAbs ≤ 128) : Sp CX 42 [fmA N k Δ n, int .i64 t] (zA (pk t n (k - 2)).2) := by
  have o0 := Of_sp 0 (by omega) (by omega)
  have o1 := Of_sp 1 (by omega) (by omega)
  refine fn_sp (C := CX) [] [] tysX_ok mixed Tryz.func42 rfl (by kernel_rfl) Tryz.ntmps42 rfl rfl ?_
  repeat' ((conv => whnf); first | refine Jb ?_ | refine Jy o0 ?_ | refine Jy o1 ?_)
  refine ⟨⟨Nat × Int × Int, fun (j, l, p) => ⟨[(1, int .i64 t), (2, .v (.c (.loc 0 0))), (4, .v (.c (.loc 1 0))), (5, .v (.c (.loc 2 0))), (6, .v (.c (.loc 3 0))), (11, int .i64 ((k : Int) - 2)), (12, int .i64 j)], [(0, .st (fmL N k Δ n)), (1, .st iZs), (2, .st (iLs l)), (3, .st (iLs p))], 4⟩, fun (j, l, p) => j ≤ k - 2 ∧ pk t n j = (l, p), fun (j, _, _) => k - 2 - j, ⟨(0, 0, 1), [], ⟨Nat.zero_le _, rfl⟩, Ent.g⟩, ?_⟩⟩
  rintro ⟨j, l, p⟩ ⟨hj, e⟩
  clear o0 o1
  by_cases hc : j < k - 2
  · obtain ⟨b1, b2⟩ := pk_22 ht hn (show j ≤ 22 by omega)
    rw [e] at b1 b2
    have l1 : ln l.natAbs ≤ 6 := ln256 b1
    have l2 : ln p.natAbs ≤ 6 := ln256 b2
    have lt : ln t.natAbs ≤ 2 := ln_two (by omega)
    have lnn : ln n.natAbs ≤ 2 := ln_two (by omega)
    have e2 : pk t n (j + 1) = (p, t * p - n * l) := by show ((pk t n j).2, t * (pk t n j).2 - n * (pk t n j).1) = _; rw [e]
    have ot := Of_sp t (by omega) (by omega)
    have on := Of_sp n (by omega) (by omega)
    have m1 := BMul_sp t p (by omega) (by omega)
    have m2 := BMul_sp n l (by omega) (by omega)
    have q1 : ln (t * p).natAbs ≤ 10 := by rw [Int.natAbs_mul]; have := ln_mul t.natAbs p.natAbs; omega
    have q2 : ln (n * l).natAbs ≤ 10 := by rw [Int.natAbs_mul]; have := ln_mul n.natAbs l.natAbs; omega
    have s := Sub_sp (t * p) (n * l) (by omega) (by omega)
    clear e b1 b2
    repeat' ((conv => whnf); first | refine Jb ?_ | refine Je ?_ | refine Ji ?_ | refine Jj ?_ | refine Jk rfl ?_ | refine Jy ot ?_ | refine Jy on ?_ | refine Jy m1 ?_ | refine Jy m2 ?_ | refine Jy s ?_)
    exact ⟨(j + 1, p, t * p - n * l), [], ⟨by omega, e2⟩, by show k - 2 - (j + 1) < k - 2 - j; omega, Ent.g⟩
  · obtain rfl : j = k - 2 := by omega
    rw [e]
    clear e
    repeat' ((conv => whnf); first | refine Jf ?_)
    refine ⟨⟨_, _, rfl, rfl, ?_⟩⟩
    exact AvLe.refl _
theorem mainQ (N k : Nat) (Δ : Int) (m : Nat) : Rat.divInt (chiZ N Δ m * ((k : Int) - 1) * psi N) 12 * (((m : Int) ^ (k - 2) : Int) : Rat) = tw (mainZ N k Δ m) := by
  rw [divInt_div]
  exact tw_mulr _ _
set_option maxHeartbeats 4000000 in
theorem main_sp (N k n : Nat) (Δ : Int) (hN1 : 1 ≤ N) (hN : N ≤ 120) (hk1 : 2 ≤ k) (hk : k ≤ 24) (d1 : -120 ≤ Δ) (d2 : Δ ≤ 120) (n1 : 1 ≤ n) (n2 : n ≤ 128) : Sp CX 15 [fmA N k Δ n] (qA (tw (mainN N k Δ n))) := by
  have o0 := ROf_sp 0 (by omega) (by omega)
  obtain ⟨r1, r2, r3, r4⟩ := rtN_spec n1 n2
  unfold mainN
  generalize rtN n = r at *
  obtain ⟨T, hT⟩ : ∃ T, T = tw (if r * r = n then mainZ N k Δ r else 0) := ⟨_, rfl⟩
  rw [← hT]
  refine fn_sp (C := CX) [] [] tysX_ok mixed Tryz.func15 rfl (by kernel_rfl) Tryz.ntmps15 rfl rfl ?_
  repeat' ((conv => whnf); first | refine Ja ?_)
  refine ⟨⟨Nat, fun m => ⟨[(1, .v (.c (.loc 0 0))), (2, .v (.c (.loc 1 0))), (3, int .i64 m)], [(0, .st (fmL N k Δ n)), (1, .st rZs)], 2⟩, fun m => 1 ≤ m ∧ m ≤ r, fun m => r - m, ⟨1, [], ⟨by omega, r1⟩, Ent.g⟩, ?_⟩⟩
  rintro m ⟨m1, m2⟩
  have em : (m : Int) * m = ((m * m : Nat) : Int) := (Int.natCast_mul ..).symm
  have bm : m * m ≤ 12 * 12 := Nat.mul_le_mul (by omega) (by omega)
  by_cases hc : m < r
  · have h4 := r4 m hc
    clear r4 o0 hT
    repeat' ((conv => whnf); first | refine Jb ?_ | refine Je ?_)
    exact ⟨m + 1, [], ⟨by omega, hc⟩, by show r - (m + 1) < r - m; omega, Ent.g⟩
  · obtain rfl : m = r := by omega
    clear r4
    by_cases hs : m * m = n
    · rw [if_pos hs] at hT
      obtain ⟨p1, p2⟩ := psi_sm hN1 hN
      have ch := chiZ_tri N Δ m1
      have ps := tpsi_sp N hN1 hN
      have cs := tchi_sp N k Δ n m m1 (by omega) hN d1 d2
      have mq := mainQ N k Δ m
      rw [← hT] at mq
      have x1 : -23 ≤ chiZ N Δ m * ((k : Int) - 1) ∧ chiZ N Δ m * ((k : Int) - 1) ≤ 23 := by
        rcases ch with e | e | e <;> rw [e] <;> omega
      have x2 : (chiZ N Δ m * ((k : Int) - 1) * psi N).natAbs ≤ 23 * 400 := abs_mul (by omega) (by omega)
      have pw := power_sp m (k - 2) (by omega) (by omega) (by omega)
      have lX : ln ((m : Int) ^ (k - 2)).natAbs ≤ 100 := by have := ln_pow (a := (m : Int)) (ln_of (k := 1) (by show _ < 4294967296; omega)) (k - 2); omega
      generalize (m : Int) ^ (k - 2) = X at *
      have ox := Of_sp (chiZ N Δ m * ((k : Int) - 1) * psi N) (by omega) (by omega)
      have o12 := Of_sp 12 (by omega) (by omega)
      have lx : ln (chiZ N Δ m * ((k : Int) - 1) * psi N).natAbs ≤ 2 := ln_two (by omega)
      have l12 : ln (12 : Int).natAbs ≤ 2 := ln_two (by decide)
      have mk := Make_sp (chiZ N Δ m * ((k : Int) - 1) * psi N) 12 (by omega) (by omega) (by omega)
      have qb := QB.divInt (d := 12) (by omega) lx l12
      have ml := RMul_sp (Rat.divInt (chiZ N Δ m * ((k : Int) - 1) * psi N) 12) ((X : Int) : Rat) (qb.mono (by omega)) ((QB.int lX (by omega)).mono (by omega))
      rw [mq] at ml
      clear mq hT o0 ch lX lx l12 qb
      generalize Rat.divInt (chiZ N Δ m * ((k : Int) - 1) * psi N) 12 = Y at *
      generalize chiZ N Δ m = c at *
      generalize psi N = P at *
      repeat' ((conv => whnf); first | refine Jb ?_ | refine Jf ?_ | refine Ji ?_ | refine Jj ?_ | refine Jk rfl ?_ | refine Jl ?_ | refine Jo ?_ | refine Jp ?_ | refine Jq rfl ?_ | refine Jy cs ?_ | refine Jy ps ?_ | refine Jy ox ?_ | refine Jy o12 ?_ | refine Jy mk ?_ | refine Sp.call (pw) (.cons (.refl _) (.cons (.int (by omega)) .nil)) rfl (AvLe.refl _) ?_ | refine Jy ml ?_)
      refine ⟨⟨_, _, rfl, rfl, ?_⟩⟩
      exact AvLe.refl _
    · rw [if_neg hs, tw_zero] at hT
      rw [← hT] at o0
      repeat' ((conv => whnf); first | refine Jb ?_ | refine Je ?_ | refine Jf ?_ | refine Jy o0 ?_)
      refine ⟨⟨_, _, rfl, rfl, ?_⟩⟩
      exact AvLe.refl _
end Go.Proofs.YtdjfndfkjbjcpaaGreatDoor

/- The trace formula in letters: local. -/
namespace HP
theorem lifts_mono {N g : Nat} {t n : Int} {a : Nat} {i : Nat} (h : lifts N g t n a i = true) : ∀ m, lifts N g t n a (i + m) = true
  | 0 => h
  | m + 1 => by
    show (lifts N g t n a (i + m) || _) = true
    rw [lifts_mono h m]
    rfl
theorem mulbz {x y : Int} {X Y : Nat} (hx : x.natAbs ≤ X) (hy : y.natAbs ≤ Y) : -((X * Y : Nat) : Int) ≤ x * y ∧ x * y ≤ ((X * Y : Nat) : Int) := by
  have h := abs_mul hx hy
  omega
theorem tmod_dvd {x m : Int} : x.tmod m = 0 ↔ m ∣ x := ⟨Int.dvd_of_tmod_eq_zero, fun h => Int.tmod_eq_zero_of_dvd h⟩
end HP
namespace Go.Proofs.YtdjfndfkjbjcpaaGreatDoor
open Go Go.RowKit Go.VG HP
set_option maxHeartbeats 8000000 in
set_option maxRecDepth 20000 in
theorem local_sp (N k e n : Nat) (Δ t : Int) (hN1 : 1 ≤ N) (hN : N ≤ 120) (d1 : -120 ≤ Δ) (d2 : Δ ≤ 120) (n2 : n ≤ 128) (ht : t.natAbs ≤ 127) (e1 : 1 ≤ e) (e2 : e ≤ 22) : Sp CX 41 [fmA N k Δ n, int .i64 t, int .i64 e] (int .i64 (locZ N e Δ t n)) := by
  have gg := gcdI_sp N e (by omega) (by omega)
  have ee : Int.gcd N e = Nat.gcd N e := rfl
  rw [ee] at gg
  have g1 : 1 ≤ Nat.gcd N e := Nat.gcd_pos_of_pos_left _ (by omega)
  have g2 : Nat.gcd N e ≤ 22 := Nat.le_trans (Nat.le_of_dvd (by omega) (Nat.gcd_dvd_right _ _)) e2
  have gd : Nat.gcd N e ∣ N := Nat.gcd_dvd_left _ _
  have q1 := psi_quo (e := e) hN1 hN
  unfold locZ
  generalize Nat.gcd N e = g at *
  obtain ⟨T, hT⟩ : ∃ T, T = locS N g Δ t n N := ⟨_, rfl⟩
  rw [← hT]
  refine fn_sp (C := CX) [] [] tysX_ok mixed Tryz.func41 rfl (by kernel_rfl) Tryz.ntmps41 rfl rfl ?_
  repeat' ((conv => whnf); first | refine Ja ?_ | refine Jy gg ?_)
  refine ⟨⟨Nat × Int, fun (m, s) => ⟨[(1, int .i64 t), (3, .v (.c (.loc 0 0))), (7, int .i64 g), (8, int .i64 s), (9, int .i64 ((m : Int) + 1))], [(0, .st (fmL N k Δ n))], 1⟩, fun (m, s) => m ≤ N ∧ s = locS N g Δ t n m, fun (m, _) => N - m, ⟨(0, 0), [], ⟨Nat.zero_le _, rfl⟩, Ent.g⟩, ?_⟩⟩
  rintro ⟨m, s⟩ ⟨hm, hs⟩
  have sb := locS_bd N g Δ t n m
  rw [← hs] at sb
  by_cases hc : m < N
  · have cs := tchi_sp N k Δ n (m + 1) (by omega) (by omega) hN d1 d2
    have ch := chiZ_tri N Δ (a := m + 1) (by omega)
    have nx : locS N g Δ t n (m + 1) = s + if lifts N g t n (m + 1) g = true then chiZ N Δ (m + 1) else 0 := by rw [locS, ← hs]
    clear hs hT gg q1
    generalize chiZ N Δ (m + 1) = c at *
    repeat' ((conv => whnf); first | refine Je ?_ | refine Jy cs ?_)
    refine ⟨⟨Nat, fun j => ⟨[(1, int .i64 t), (3, .v (.c (.loc 0 0))), (7, int .i64 g), (8, int .i64 s), (9, int .i64 ((m : Int) + 1)), (10, int .i64 c), (11, int .i64 j)], [(0, .st (fmL N k Δ n))], 1⟩, fun j => j ≤ g ∧ lifts N g t n (m + 1) j = false, fun j => g - j, ⟨0, [], ⟨Nat.zero_le _, rfl⟩, Ent.g⟩, ?_⟩⟩
    rintro j ⟨hj, hl⟩
    by_cases hcj : j < g
    · by_cases hx : c = 0
      · have e0 : locS N g Δ t n (m + 1) = s := by rw [nx, hx]; split <;> omega
        clear nx cs
        repeat' ((conv => whnf); first | refine Jb ?_ | refine Je ?_ | refine Jf ?_)
        exact ⟨(m + 1, s), [], ⟨by omega, e0.symm⟩, by show N - (m + 1) < N - m; omega, Ent.g⟩
      · have ls : lifts N g t n (m + 1) (j + 1) = decide (((N * g : Nat) : Int) ∣ fq t n (((m + 1 : Nat) : Int) + (N : Int) * (j : Int))) := by rw [lifts, hl, Bool.false_or]
        have eN : (N : Int) * j = ((N * j : Nat) : Int) := (Int.natCast_mul ..).symm
        have bN : N * j ≤ 120 * 22 := Nat.mul_le_mul hN (by omega)
        have eG : (N : Int) * g = ((N * g : Nat) : Int) := (Int.natCast_mul ..).symm
        have bG : N * g ≤ 120 * 22 := Nat.mul_le_mul hN g2
        have pG : 0 < N * g := Nat.mul_pos (by omega) (by omega)
        obtain ⟨b, hb⟩ : ∃ b : Int, b = (m : Int) + 1 + (N : Int) * j := ⟨_, rfl⟩
        have b1 : 0 ≤ b ∧ b ≤ 3000 := by omega
        have bb := mulbz (x := b) (y := b) (X := 3000) (Y := 3000) (by omega) (by omega)
        have tb := mulbz (x := t) (y := b) (X := 127) (Y := 3000) (by omega) (by omega)
        have lq : lifts N g t n (m + 1) (j + 1) = decide ((b * b - t * b + (n : Int)).tmod ((N : Int) * g) = 0) := by
          rw [ls]
          refine decide_eq_decide.2 ?_
          rw [tmod_dvd, eG, show ((m + 1 : Nat) : Int) + (N : Int) * (j : Int) = b by omega]
          rfl
        clear ls
        by_cases hz : (b * b - t * b + (n : Int)).tmod ((N : Int) * g) = 0
        · rw [decide_eq_true hz] at lq
          have e0 : locS N g Δ t n (m + 1) = s + c := by
            rw [nx, if_pos]
            have := lifts_mono lq (g - (j + 1))
            rwa [show j + 1 + (g - (j + 1)) = g by omega] at this
          clear nx cs lq hl
          rw [hb] at bb tb hz
          repeat' ((conv => whnf); first | refine Ja ?_ | refine Jb ?_ | refine Je ?_)
          exact ⟨(m + 1, s + c), [], ⟨by omega, e0.symm⟩, by show N - (m + 1) < N - m; omega, Ent.g⟩
        · rw [decide_eq_false hz] at lq
          clear nx cs hl
          rw [hb] at bb tb hz
          repeat' ((conv => whnf); first | refine Ja ?_ | refine Jb ?_ | refine Je ?_ | refine Jf ?_)
          exact ⟨j + 1, [], ⟨hcj, lq⟩, by show g - (j + 1) < g - j; omega, Ent.g⟩
    · obtain rfl : j = g := by omega
      have e0 : locS N j Δ t n (m + 1) = s := by rw [nx, hl]; exact Int.add_zero _
      clear nx cs
      repeat' ((conv => whnf); first | refine Jb ?_ | refine Jf ?_)
      exact ⟨(m + 1, s), [], ⟨by omega, e0.symm⟩, by show N - (m + 1) < N - m; omega, Ent.g⟩
  · obtain rfl : m = N := by omega
    obtain rfl : s = T := by rw [hT, hs]
    have p1 := tpsi_sp m hN1 hN
    have hd1 : 1 ≤ m / g := Nat.div_pos (Nat.le_of_dvd (by omega) gd) (by omega)
    have hd2 : m / g ≤ 120 := Nat.le_trans (Nat.div_le_self _ _) hN
    have p2 := tpsi_sp (m / g) hd1 hd2
    obtain ⟨x1, x2⟩ := psi_sm hN1 hN
    obtain ⟨y1, y2⟩ := psi_sm hd1 hd2
    have et : (m : Int).tdiv g = ((m / g : Nat) : Int) := (Int.ofNat_tdiv m g).symm
    have eq : (psi m).tdiv (psi (m / g)) = psi m / psi (m / g) := Int.tdiv_eq_ediv_of_nonneg (by omega)
    have eo : psi (m / g) ≠ 0 ∧ InK .i64 ((psi m).tdiv (psi (m / g))) := ⟨by omega, by rw [eq]; show -9223372036854775808 ≤ psi m / psi (m / g) ∧ _ ≤ 9223372036854775807; omega⟩
    have bm := mulbz (x := psi m / psi (m / g)) (y := s) (X := 400) (Y := 120) (by omega) (by omega)
    rw [← eq] at bm ⊢
    clear hT hs eq q1 gg
    have eg : (g : Int) ≠ 0 ∧ InK .i64 ((m : Int).tdiv g) := ⟨by omega, by rw [et]; show -9223372036854775808 ≤ ((m / g : Nat) : Int) ∧ ((m / g : Nat) : Int) ≤ 9223372036854775807; omega⟩
    generalize psi (m / g) = Y at *
    generalize psi m = X at *
    repeat' ((conv => whnf); first | (refine Ob.mk eg ?_) | (refine Ob.mk eo ?_) | refine Jb ?_ | refine Jf ?_ | refine Ji ?_ | refine Jj ?_ | refine Jk rfl ?_ | refine Jy p1 ?_ | refine Sp.call (p2) (.cons (.int et) .nil) rfl (AvLe.refl _) ?_)
    refine ⟨⟨_, _, rfl, rfl, ?_⟩⟩
    exact AvLe.refl _
end Go.Proofs.YtdjfndfkjbjcpaaGreatDoor

/- The trace formula in letters: elliptic. -/
namespace HP
theorem ell_ln {N k : Nat} {Δ n : Int} (h1 : 1 ≤ N) (h2 : N ≤ 120) (hk : k ≤ 24) (n1 : 1 ≤ n) (n2 : n ≤ 128) {m : Nat} (hm : m ≤ 259) : ln (ellS N k Δ n m).natAbs ≤ 7 := by
  have b := ellS_bd (k := k) (Δ := Δ) h1 h2 hk n1 n2 m
  have c := Nat.mul_le_mul_right (256 ^ 22 * 8439552000) hm
  exact ln_of (Nat.lt_of_le_of_lt (Nat.le_trans b c) (by decide))
theorem inn_ln {N : Nat} {Δ t n : Int} {D : Nat} (h1 : 1 ≤ N) (h2 : N ≤ 120) {m : Nat} (hm : m ≤ 22) : ln (innZ N Δ t n D m).natAbs ≤ 2 := by
  have b := innZ_bd (Δ := Δ) (t := t) (n := n) (D := D) h1 h2 m
  exact ln_of (Nat.lt_of_le_of_lt b (by show _ < 18446744073709551616; omega))
theorem elT_ln {N k : Nat} {Δ n t : Int} (h1 : 1 ≤ N) (h2 : N ≤ 120) (hk : k ≤ 24) (n1 : 1 ≤ n) (n2 : n ≤ 128) : ln (ellT N k Δ n t).natAbs ≤ 7 := by
  have b := ellT_bd (k := k) (Δ := Δ) (t := t) h1 h2 hk n1 n2
  exact ln_of (Nat.lt_of_le_of_lt b (by decide))
theorem neg_qr {D e : Nat} (h : D % (e * e) = 0) : (-(D : Int)).tmod ((e : Int) * e) = 0 ∧ (-(D : Int)).tdiv ((e : Int) * e) = -((D / (e * e) : Nat) : Int) := by
  rw [show (e : Int) * e = ((e * e : Nat) : Int) from (Int.natCast_mul ..).symm, Int.neg_tmod, Int.neg_tdiv]
  refine ⟨?_, rfl⟩
  show -((D % (e * e) : Nat) : Int) = 0
  rw [h]; rfl
theorem neg_rn {D e : Nat} (h : D % (e * e) ≠ 0) : ¬ (-(D : Int)).tmod ((e : Int) * e) = 0 := by
  rw [show (e : Int) * e = ((e * e : Nat) : Int) from (Int.natCast_mul ..).symm, Int.neg_tmod]
  show ¬ -((D % (e * e) : Nat) : Int) = 0
  omega
end HP
namespace Go.Proofs.YtdjfndfkjbjcpaaGreatDoor
open Go Go.RowKit Go.VG HP
set_option maxHeartbeats 16000000 in
set_option maxRecDepth 20000 in
theorem elliptic_sp (N k n : Nat) (Δ : Int) (hN1 : 1 ≤ N) (hN : N ≤ 120) (hk1 : 2 ≤ k) (hk : k ≤ 24) (d1 : -120 ≤ Δ) (d2 : Δ ≤ 120) (n1 : 1 ≤ n) (n2 : n ≤ 128) : Sp CX 16 [fmA N k Δ n] (qA (tw (ellZ N k Δ n))) := by
  have o0 := ROf_sp 0 (by omega) (by omega)
  rw [← sx_zero] at o0
  have hh := half_sp (sx (ellZ N k Δ n)) ((sx_QB (k := 7) (ell_ln hN1 hN hk (by omega) (by omega) (by omega)) (by omega)).mono (by omega))
  rw [sx_half] at hh
  obtain ⟨T, hT⟩ : ∃ T, T = ellZ N k Δ n := ⟨_, rfl⟩
  rw [← hT] at hh ⊢
  refine fn_sp (C := CX) [] [] tysX_ok mixed Tryz.func16 rfl (by kernel_rfl) Tryz.ntmps16 rfl rfl ?_
  repeat' ((conv => whnf); first | refine Jb ?_ | refine Jy o0 ?_)
  refine ⟨⟨Nat × Int × Int, fun (m, t, S) => ⟨[(1, .v (.c (.loc 0 0))), (2, .v (.c (.loc 1 0))), (3, .v (.c (.loc 2 0))), (4, int .i64 t)], [(0, .st (fmL N k Δ n)), (1, .st rZs), (2, .st (rLs (sx S)))], 3⟩, fun (m, t, S) => m ≤ 2 * n + 3 ∧ t = (m : Int) - n - 1 ∧ S = ellS N k Δ n m, fun (m, _, _) => 2 * n + 3 - m, ⟨(0, -(n : Int) - 1, 0), [], ⟨Nat.zero_le _, by omega, rfl⟩, Ent.g⟩, ?_⟩⟩
  rintro ⟨m, t, S⟩ ⟨hm, et, hS⟩
  by_cases hc : m < 2 * n + 3
  · have nx : ellS N k Δ n (m + 1) = S + ellT N k Δ n t := by rw [ellS, ← hS, et]
    have lS : ln S.natAbs ≤ 7 := by rw [hS]; exact ell_ln hN1 hN hk (by omega) (by omega) (by omega)
    have tt := mulbz (x := t) (y := t) (X := 129) (Y := 129) (by omega) (by omega)
    have tp := qsq_bd (b := t) (B := 129) (by omega)
    clear hT hS hh
    by_cases hd : t * t < 4 * (n : Int)
    · obtain ⟨D, hD⟩ : ∃ D : Nat, D = (4 * (n : Int) - t * t).toNat := ⟨_, rfl⟩
      have eD : t * t - 4 * (n : Int) = -(D : Int) := by omega
      have D1 : 1 ≤ D := by omega
      have D2 : D ≤ 512 := by omega
      have ht : t.natAbs < 23 := sqz (x := 23) (by omega)
      have eT : ellT N k Δ n t = (pk t n (k - 2)).2 * innZ N Δ t n D 22 := by unfold ellT; rw [if_pos hd, ← hD]
      rw [eT] at nx
      have lT : ln ((pk t n (k - 2)).2 * innZ N Δ t n D 22).natAbs ≤ 7 := by rw [← eT]; exact elT_ln hN1 hN hk (by omega) (by omega)
      have cf := coef_sp N k Δ n t hk1 hk (by omega) (by omega)
      have pb := (pk_22 (t := t) (n := n) (by omega) (by omega) (show k - 2 ≤ 22 by omega)).2
      have lp := ln256 pb
      clear eT hD pb
      generalize (pk t n (k - 2)).2 = P at *
      repeat' ((conv => whnf); first | refine Jb ?_ | refine Je ?_ | refine Jf ?_ | refine Jy o0 ?_)
      refine ⟨⟨Nat × Int, fun (e, I) => ⟨[(1, .v (.c (.loc 0 0))), (2, .v (.c (.loc 1 0))), (3, .v (.c (.loc 2 0))), (4, int .i64 t), (5, int .i64 (-(D : Int))), (6, .v (.c (.loc 3 0))), (7, int .i64 ((e : Int) + 1))], [(0, .st (fmL N k Δ n)), (1, .st rZs), (2, .st (rLs (sx S))), (3, .st (rLs (sx I)))], 4⟩, fun (e, I) => e ≤ 22 ∧ I = innZ N Δ t n D e, fun (e, _) => 22 - e, ⟨(0, 0), [], ⟨Nat.zero_le _, rfl⟩, ?_⟩, ?_⟩⟩
      · refine ⟨?_, ?_, rfl⟩
        · exact .cons (.refl _) (.cons (.refl _) (.cons (.refl _) (.cons (.refl _) (.cons (.int eD) (.cons (.refl _) (.cons (.refl _) .nil))))))
        · exact .cons rfl (.refl _) (.cons rfl (.refl _) (.cons rfl (.refl _) (.cons rfl (.refl _) .nil)))
      rintro ⟨e, I⟩ ⟨he, hI⟩
      have lI : ln I.natAbs ≤ 2 := by rw [hI]; exact inn_ln hN1 hN he
      have ee : ((e : Int) + 1) * ((e : Int) + 1) = (((e + 1) * (e + 1) : Nat) : Int) := by push_cast; rfl
      have be : (e + 1) * (e + 1) ≤ 23 * 23 := Nat.mul_le_mul (by omega) (by omega)
      have pe : 0 < (e + 1) * (e + 1) := Nat.mul_pos (by omega) (by omega)
      have ni : innZ N Δ t n D (e + 1) = I + innT N Δ t n D (e + 1) := by rw [innZ, ← hI]
      clear o0
      by_cases hce : (e + 1) * (e + 1) ≤ D
      · have e22 : e + 1 < 23 := sq_lt (by omega)
        clear cf nx lT hI
        by_cases hz : D % ((e + 1) * (e + 1)) = 0
        · obtain ⟨r1, r2⟩ := neg_qr hz
          have ec : (((e + 1 : Nat) : Int)) = (e : Int) + 1 := by omega
          rw [ec] at r1 r2
          have q1 : 1 ≤ D / ((e + 1) * (e + 1)) := Nat.div_pos hce pe
          have q2 : D / ((e + 1) * (e + 1)) ≤ 512 := Nat.le_trans (Nat.div_le_self _ _) D2
          have eo : ((e : Int) + 1) * ((e : Int) + 1) ≠ 0 ∧ InK .i64 ((-(D : Int)).tdiv (((e : Int) + 1) * ((e : Int) + 1))) := ⟨by omega, by rw [r2]; show -9223372036854775808 ≤ -((D / ((e + 1) * (e + 1)) : Nat) : Int) ∧ -((D / ((e + 1) * (e + 1)) : Nat) : Int) ≤ 9223372036854775807; omega⟩
          by_cases hp : posD (D / ((e + 1) * (e + 1)))
          · have iT : innT N Δ t n D (e + 1) = (w6 (D / ((e + 1) * (e + 1))) : Int) * locZ N (e + 1) Δ t n := by unfold innT; rw [if_pos ⟨hz, hp⟩]
            rw [iT] at ni
            have lb := locZ_bd (e := e + 1) (Δ := Δ) (t := t) (n := n) hN1 hN
            have w6b := w6_le hp.2.1
            have wk := Weighted_ok _ hp
            have ls := local_sp N k (e + 1) n Δ t hN1 hN d1 d2 n2 (by omega) (by omega) (by omega)
            clear iT hp hz
            generalize locZ N (e + 1) Δ t n = L at *
            generalize D / ((e + 1) * (e + 1)) = Q at *
            generalize w6 Q = W at *
            have oL := ROf_sp L (by omega) (by omega)
            have bW := abs_mul (a := (W : Int)) (b := L) (x := 7992) (y := 48000) (by omega) lb
            have m1 := RMul_sp (sx W) ((L : Int) : Rat) ((sx_QB (k := 2) (ln_two (by omega)) (by omega)).mono (by omega)) ((QB.i64 (by omega) (by omega)).mono (by omega))
            rw [sx_mulr] at m1
            have a1 := RAdd_sp (sx I) (sx ((W : Int) * L)) ((sx_QB (k := 2) lI (by omega)).mono (by omega)) ((sx_QB (k := 2) (ln_two (by omega)) (by omega)).mono (by omega))
            rw [sx_add] at a1
            clear lS lI tt tp lb w6b bW
            repeat' ((conv => whnf); first | (refine Ob.mk eo ?_) | refine Ja ?_ | refine Jb ?_ | refine Je ?_ | refine Jf ?_ | refine Ji ?_ | refine Jj ?_ | refine Jk rfl ?_ | refine Sp.call (wk) (.cons (.int r2) .nil) rfl (AvLe.refl _) ?_ | refine Jy ls ?_ | refine Jy oL ?_ | refine Jy m1 ?_ | refine Jy a1 ?_)
            exact ⟨(e + 1, I + (W : Int) * L), [], ⟨by omega, ni.symm⟩, by show 22 - (e + 1) < 22 - e; omega, Ent.g⟩
          · have iT : innT N Δ t n D (e + 1) = 0 := by unfold innT; rw [if_neg fun h => hp h.2]
            rw [iT, Int.add_zero] at ni
            have wk := Weighted_no _ q1 (by omega) hp
            clear iT hp hz lS lI tt tp
            generalize D / ((e + 1) * (e + 1)) = Q at *
            repeat' ((conv => whnf); first | (refine Ob.mk eo ?_) | refine Ja ?_ | refine Jb ?_ | refine Je ?_ | refine Jf ?_ | refine Sp.call (wk) (.cons (.int r2) .nil) rfl (AvLe.refl _) ?_)
            exact ⟨(e + 1, I), [], ⟨by omega, ni.symm⟩, by show 22 - (e + 1) < 22 - e; omega, Ent.g⟩
        · have iT : innT N Δ t n D (e + 1) = 0 := by unfold innT; rw [if_neg fun h => hz h.1]
          rw [iT, Int.add_zero] at ni
          have r1 := neg_rn hz
          have ec : (((e + 1 : Nat) : Int)) = (e : Int) + 1 := by omega
          rw [ec] at r1
          clear iT hz lS lI tt tp
          repeat' ((conv => whnf); first | refine Ja ?_ | refine Jb ?_ | refine Je ?_)
          exact ⟨(e + 1, I), [], ⟨by omega, ni.symm⟩, by show 22 - (e + 1) < 22 - e; omega, Ent.g⟩
      · have hE : innZ N Δ t n D 22 = I := by
          have := innZ_end (N := N) (Δ := Δ) (t := t) (n := n) (D := D) (m := e) D1 (by omega) (22 - e)
          rw [show e + (22 - e) = 22 by omega] at this
          rw [this, hI]
        rw [hE] at nx lT
        clear hE hI ni
        have w := Whole_sp P (by omega)
        have m1 := RMul_sp ((P : Int) : Rat) (sx I) ((QB.int lp (by omega)).mono (by omega)) ((sx_QB (k := 2) lI (by omega)).mono (by omega))
        rw [sx_mul] at m1
        have a1 := RAdd_sp (sx S) (sx (P * I)) ((sx_QB (k := 7) lS (by omega)).mono (by omega)) ((sx_QB (k := 7) lT (by omega)).mono (by omega))
        rw [sx_add] at a1
        clear lS lI tt tp lT lp
        repeat' ((conv => whnf); first | refine Jb ?_ | refine Jf ?_ | refine Ji ?_ | refine Jj ?_ | refine Jk rfl ?_ | refine Jy cf ?_ | refine Jy w ?_ | refine Jy m1 ?_ | refine Jy a1 ?_)
        exact ⟨(m + 1, t + 1, S + P * I), [], ⟨by omega, by omega, nx.symm⟩, by show 2 * n + 3 - (m + 1) < 2 * n + 3 - m; omega, Ent.g⟩
    · have e0 : ellT N k Δ n t = 0 := by unfold ellT; rw [if_neg hd]
      rw [e0, Int.add_zero] at nx
      repeat' ((conv => whnf); first | refine Jb ?_ | refine Je ?_ | refine Jy o0 ?_)
      exact ⟨(m + 1, t + 1, S), [], ⟨by omega, by omega, nx.symm⟩, by show 2 * n + 3 - (m + 1) < 2 * n + 3 - m; omega, Ent.g⟩
  · obtain rfl : m = 2 * n + 3 := by omega
    have : S = T := by
      rw [hT, hS]
      unfold ellZ
      rw [show (2 * (n : Int) + 3).toNat = 2 * n + 3 by omega]
    subst this
    clear hT hS o0
    repeat' ((conv => whnf); first | refine Jb ?_ | refine Jf ?_ | refine Jy hh ?_)
    refine ⟨⟨_, _, rfl, rfl, ?_⟩⟩
    exact AvLe.refl _
end Go.Proofs.YtdjfndfkjbjcpaaGreatDoor

/- The trace formula in letters: Crt of two congruences, Phi, hyperbolic. -/
namespace HP
theorem dvs_len' (n : Nat) : (dvs n).length ≤ n + 1 := by
  unfold dvs
  have := List.length_filter_le (isDv n) (List.range (n + 1))
  rwa [List.length_range] at this
theorem hinT_bd {N n d c : Nat} {Δ : Int} (hN1 : 1 ≤ N) (hN : N ≤ 120) (hc : c ∣ N) : (hinT N Δ n d c).natAbs ≤ 120 := by
  have c1 : 1 ≤ c := Nat.pos_of_dvd_of_pos hc (by omega)
  have g1 : 1 ≤ Nat.gcd c (N / c) := Nat.gcd_pos_of_pos_left _ c1
  have g2 : Nat.gcd c (N / c) ≤ N := Nat.le_trans (Nat.le_of_dvd c1 (Nat.gcd_dvd_left _ _)) (Nat.le_of_dvd (by omega) hc)
  unfold hinT
  split
  · next h =>
    obtain ⟨R, M, ok⟩ := yy_ok hN1 hN hc h.2
    have y1 := ok.bd
    have ch := chiZ_tri N Δ y1.1
    have p1 := phi_le g1
    have p0 := phi_pos g1
    exact abs_mul (x := 120) (y := 1) (by omega) (by omega)
  · exact Nat.zero_le _
theorem hinZ_bd {N n d : Nat} {Δ : Int} (hN1 : 1 ≤ N) (hN : N ≤ 120) {m : Nat} (hm : m ≤ (dvs N).length) : (hinZ N Δ n d m).natAbs ≤ 14520 := by
  have b := sumJ_bd (f := fun j => hinT N Δ n d (dvG N j)) (B := 120) (m := m) fun i hi => hinT_bd hN1 hN (dvG_at hN1 (by omega)).2.1
  have l := dvs_len' N
  unfold hinZ
  omega
theorem hypT_bd {N k n d : Nat} {Δ : Int} (hN1 : 1 ≤ N) (hN : N ≤ 120) (hk : k ≤ 24) (n2 : n ≤ 128) : (hypT N k Δ n d).natAbs ≤ 128 ^ 23 * 14520 := by
  unfold hypT
  refine abs_mul ?_ (hinZ_bd hN1 hN (Nat.le_refl _))
  rw [← Int.natCast_pow, Int.natAbs_natCast]
  have h1 : min d (n / d) ≤ 128 := by have := Nat.div_le_self n d; omega
  exact Nat.le_trans (Nat.pow_le_pow_left h1 _) (Nat.pow_le_pow_right (by omega) (by omega))
theorem hypZ_ln {N k n : Nat} {Δ : Int} (hN1 : 1 ≤ N) (hN : N ≤ 120) (hk : k ≤ 24) (n2 : n ≤ 128) {m : Nat} (hm : m ≤ (dvs n).length) : ln (hypZ N k Δ n m).natAbs ≤ 6 ∧ ln (6 * hypZ N k Δ n m).natAbs ≤ 6 := by
  have b := sumJ_bd (f := fun i => hypT N k Δ n (dvG n i)) (B := 128 ^ 23 * 14520) (m := m) fun i _ => hypT_bd hN1 hN hk n2
  have l := dvs_len' n
  have c := Nat.mul_le_mul_right (128 ^ 23 * 14520) (show m ≤ 129 by omega)
  have e : (hypZ N k Δ n m).natAbs ≤ 129 * (128 ^ 23 * 14520) := Nat.le_trans b c
  refine ⟨ln_of (Nat.lt_of_le_of_lt e (by decide)), ?_⟩
  rw [Int.natAbs_mul]
  exact ln_of (Nat.lt_of_le_of_lt (Nat.mul_le_mul_left 6 e) (by decide))
theorem tdivOb {x y : Nat} (hy : 1 ≤ y) (hx : x ≤ 1000000) : (y : Int) ≠ 0 ∧ Go.VG.InK .i64 ((x : Int).tdiv y) := by
  refine ⟨by omega, ?_⟩
  rw [show (x : Int).tdiv y = ((x / y : Nat) : Int) from (Int.ofNat_tdiv x y).symm]
  have := Nat.div_le_self x y
  generalize x / y = q at *
  show -9223372036854775808 ≤ (q : Int) ∧ (q : Int) ≤ 9223372036854775807
  omega
theorem dvG_z {n : Nat} : ∀ (i x : Nat), (dvs n)[i]? = some x → dvG n i = x := fun i x h => by
  unfold dvG
  rw [List.getD_eq_getElem?_getD, h]
  rfl
end HP
namespace Go.Proofs.YtdjfndfkjbjcpaaGreatDoor
open Go Go.RowKit Go.VG HP
def tcgL (z : Int × Int) (j : Nat) : Leaf := if j = 0 then ix z.1 else ix z.2
theorem tcell_lt {w : World} {g o : Nat} {u : Value} (h : w.cell? ⟨g, o, none⟩ = some u) : g < w.heap.size := Nat.lt_of_not_le fun hle => by
  have e : w.heap[g]? = none := by simpa using hle
  simp [World.cell?, e] at h
theorem tcrt_sp (Z : Nat → Int × Int) (x M : Int) (h : crtOut (crt (0, 1) [Z 0, Z 1]) = (x, M, 0)) : Sp CX 45 [.v (.c (.sl 2 (Int × Int) tcgL Z 2))] (.tup [.agg [ix x, ix M], .c (ix 0)]) := by
  refine ⟨callOk Tryz.func45 (by kernel_rfl) (by kernel_rfl), rfl, fun O w vs hO hG hargs => ?_⟩
  have ha := hargs (fun _ => undef) w (Ext.refl _ _)
  match vs, ha with
  | [v], ⟨⟨_, ad, cap, e, hle, hn, hc⟩, _⟩ =>
    subst e
    cases ad with
    | none => exact absurd (hn rfl) (by omega)
    | some ad =>
      obtain ⟨g, off, sp⟩ := ad
      obtain ⟨rfl, hcc⟩ := hc g off sp rfl
      have hcg : CgrAt w g off [Z 0, Z 1] := fun i r m hi => by
        match i, hi with
        | 0, hi =>
          obtain ⟨u, c1, _, c2⟩ := hcc 0 0 (by omega) (by omega)
          obtain ⟨u', d1, _, d2⟩ := hcc 0 1 (by omega) (by omega)
          have hz : Z 0 = (r, m) := by simpa using hi
          have e1 : u = .int .i64 (Z 0).1 := c2 fun _ => undef
          have e2 : u' = .int .i64 (Z 0).2 := d2 fun _ => undef
          rw [hz] at e1 e2
          subst e1 e2
          exact ⟨c1, d1⟩
        | 1, hi =>
          obtain ⟨u, c1, _, c2⟩ := hcc 1 0 (by omega) (by omega)
          obtain ⟨u', d1, _, d2⟩ := hcc 1 1 (by omega) (by omega)
          have hz : Z 1 = (r, m) := by simpa using hi
          have e1 : u = .int .i64 (Z 1).1 := c2 fun _ => undef
          have e2 : u' = .int .i64 (Z 1).2 := d2 fun _ => undef
          rw [hz] at e1 e2
          subst e1 e2
          exact ⟨c1, d1⟩
        | i + 2, hi => simp at hi
      obtain ⟨u, c1, _⟩ := hcc 0 0 (by omega) (by omega)
      refine (crt_any g off 2 cap [Z 0, Z 1] rfl w (tcell_lt c1) hcg (by omega)).mono ?_
      rintro en w' ⟨rfl, hb⟩
      refine ⟨_, rfl, hb, fun ρ' w'' _ => ?_⟩
      unfold crtVal
      rw [h]
      exact ⟨[_, _], rfl, ⟨[_, _], rfl, ⟨rfl, rfl⟩, ⟨rfl, rfl⟩, trivial⟩, ⟨rfl, rfl⟩, trivial⟩
theorem aphi_sp (N : Nat) (hN0 : 1 ≤ N) (hN : N ≤ 2147483647) : Sp CX 46 [int .i64 N] (.tup [.c (ix (phi N)), .c (ix 0)]) :=
  .of_val (vs0 := [.int .i64 N]) (v := .tuple #[.int .i64 (phi N), .int .i64 0]) (callOk Tryz.func46 (by kernel_rfl) (by kernel_rfl)) rfl (fun _ _ _ h => argsX h) (fun _ _ => ⟨_, rfl, ⟨rfl, rfl⟩, ⟨rfl, rfl⟩, trivial⟩) fun w _ => phi_any N w hN0 hN
def dvA (n m : Nat) : AV := .v (.c (.sl 1 Nat (fun z _ => ix z) (dvG n) m))
set_option maxHeartbeats 16000000 in
set_option maxRecDepth 20000 in
theorem hyper_sp (N k n : Nat) (Δ : Int) (hN1 : 1 ≤ N) (hN : N ≤ 120) (hk1 : 2 ≤ k) (hk : k ≤ 24) (d1 : -120 ≤ Δ) (d2 : Δ ≤ 120) (dz : Δ ≠ 0) (n1 : 1 ≤ n) (n2 : n ≤ 128) : Sp CX 17 [fmA N k Δ n] (qA (tw (6 * hypZ N k Δ n (dvs n).length))) := by
  have o0 := ROf_sp 0 (by omega) (by omega)
  have ds := divisors_sp n (dvG n) (dvs n).length dvG_z rfl n1 (by omega)
  have cs := divisors_sp N (dvG N) (dvs N).length dvG_z rfl hN1 (by omega)
  have hln := @hypZ_ln N k n Δ hN1 hN hk n2
  have hh := half_sp ((hypZ N k Δ n (dvs n).length : Int) : Rat) ((QB.int (hln (Nat.le_refl _)).1 (by omega)).mono (by omega))
  rw [int_half] at hh
  have lD := dvs_len' n
  have lC := dvs_len' N
  have atD : ∀ i, i < (dvs n).length → 1 ≤ dvG n i ∧ dvG n i ∣ n ∧ dvG n i ≤ n := fun i hi => dvG_at n1 hi
  have atC : ∀ i, i < (dvs N).length → 1 ≤ dvG N i ∧ dvG N i ∣ N ∧ dvG N i ≤ N := fun i hi => dvG_at hN1 hi
  have hinB : ∀ d m, m ≤ (dvs N).length → (hinZ N Δ n d m).natAbs ≤ 14520 := fun d m hm => hinZ_bd hN1 hN hm
  have hiT : ∀ d m, hinZ N Δ n d (m + 1) = hinZ N Δ n d m + hinT N Δ n d (dvG N m) := fun _ _ => rfl
  have hyT : ∀ m, hypZ N k Δ n (m + 1) = hypZ N k Δ n m + hypT N k Δ n (dvG n m) := fun _ => rfl
  have hyE : ∀ d, hypT N k Δ n d = ((min d (n / d) : Nat) : Int) ^ (k - 1) * hinZ N Δ n d (dvs N).length := fun _ => rfl
  have hi0 : ∀ d, hinZ N Δ n d 0 = 0 := fun _ => rfl
  have hy0 : hypZ N k Δ n 0 = 0 := rfl
  generalize (dvs n).length = LD at *
  generalize (dvs N).length = LC at *
  obtain ⟨T, hT⟩ : ∃ T, T = hypZ N k Δ n LD := ⟨_, rfl⟩
  rw [← hT] at hh ⊢
  refine fn_sp (C := CX) [] [] tysX_ok mixed Tryz.func17 rfl (by kernel_rfl) Tryz.ntmps17 rfl rfl ?_
  repeat' ((conv => whnf); first | refine Jb ?_ | refine Jy o0 ?_ | refine Jy ds ?_ | refine Jy cs ?_)
  refine ⟨⟨Nat × Int, fun (i, S) => ⟨[(1, .v (.c (.loc 0 0))), (2, .v (.c (.loc 1 0))), (3, .v (.c (.loc 2 0))), (6, dvA N LC), (8, int .i64 (Δ.natAbs : Nat)), (39, dvA n LD), (40, int .i64 LD), (41, int .i64 i)], [(0, .st (fmL N k Δ n)), (1, .st rZs), (2, .st (rLs ((S : Int) : Rat)))], 3⟩, fun (i, S) => i ≤ LD ∧ S = hypZ N k Δ n i, fun (i, _) => LD - i, ⟨(0, 0), [], ⟨Nat.zero_le _, hy0.symm⟩, ?_⟩, ?_⟩⟩
  · refine ⟨?_, ?_, rfl⟩
    · refine .cons (.refl _) (.cons (.refl _) (.cons (.refl _) (.cons (.refl _) (.cons (.int ?_) (.cons (.refl _) (.cons (.refl _) (.cons (.refl _) .nil)))))))
      show (if Δ < -Δ then -Δ else Δ) = _
      split <;> omega
    · exact .cons rfl (.refl _) (.cons rfl (.refl _) (.cons rfl (.refl _) .nil))
  rintro ⟨i, S⟩ ⟨hi, hS⟩
  clear ds cs
  by_cases hc : i < LD
  · obtain ⟨x1, x2, x3⟩ := atD i hc
    have nx := hyT i
    rw [← hS, hyE] at nx
    have lS := (hln hi).1
    rw [← hS] at lS
    have lS2 := (hln (m := i + 1) hc).1
    rw [hyT i, ← hS, hyE] at lS2
    clear hh hT hS hyT hyE hy0 atD o0
    have edo := tdivOb (x := n) x1 (by omega)
    obtain ⟨d, hd⟩ : ∃ d, d = dvG n i := ⟨_, rfl⟩
    have eo : (n : Int).tdiv (dvG n i : Nat) = ((n / d : Nat) : Int) := by rw [hd]; exact (Int.ofNat_tdiv n _).symm
    have od := Nat.div_le_self n d
    rw [← hd] at x1 x2 x3 nx lS2
    obtain ⟨o, ho⟩ : ∃ o, o = n / d := ⟨_, rfl⟩
    repeat' ((conv => whnf); first | (refine Ob.mk edo ?_) | refine Je ?_ | refine Jg rfl ?_)
    refine ⟨⟨Nat × Int, fun (j, I) => ⟨[(1, .v (.c (.loc 0 0))), (2, .v (.c (.loc 1 0))), (3, .v (.c (.loc 2 0))), (6, dvA N LC), (8, int .i64 (Δ.natAbs : Nat)), (10, int .i64 d), (11, int .i64 o), (12, int .i64 I), (39, dvA n LD), (40, int .i64 LD), (41, int .i64 i), (49, dvA N LC), (50, int .i64 LC), (51, int .i64 j)], [(0, .st (fmL N k Δ n)), (1, .st rZs), (2, .st (rLs ((S : Int) : Rat)))], 3⟩, fun (j, I) => j ≤ LC ∧ I = hinZ N Δ n d j, fun (j, _) => LC - j, ⟨(0, 0), [], ⟨Nat.zero_le _, (hi0 d).symm⟩, ?_⟩, ?_⟩⟩
    · refine ⟨?_, ?_, rfl⟩
      · refine .cons (.refl _) (.cons (.refl _) (.cons (.refl _) (.cons (.refl _) (.cons (.refl _) (.cons (.int (by rw [hd])) (.cons (.int ?_) (.cons (.refl _) (.cons (.refl _) (.cons (.refl _) (.cons (.refl _) (.cons (.refl _) (.cons (.refl _) (.cons (.refl _) .nil)))))))))))))
        rw [eo, ho]
      · exact .cons rfl (.refl _) (.cons rfl (.refl _) (.cons rfl (.refl _) .nil))
    rintro ⟨j, I⟩ ⟨hj, hI⟩
    have bI : I.natAbs ≤ 14520 := by rw [hI]; exact hinB d j hj
    clear eo edo hd
    by_cases hcj : j < LC
    · obtain ⟨c1, c2, c3⟩ := atC j hcj
      have ni := hiT d j
      have bI2 := hinB d (j + 1) hcj
      rw [hiT d j, ← hI] at bI2
      rw [← hI] at ni
      clear hI hi0 hinB hiT atC lS lS2 nx
      have ec : (N : Int).tdiv (dvG N j) = ((N / (dvG N j) : Nat) : Int) := (Int.ofNat_tdiv N (dvG N j)).symm
      have m1 : 1 ≤ N / (dvG N j) := Nat.div_pos (Nat.le_of_dvd (by omega) c2) (by omega)
      have m2 : N / (dvG N j) ≤ 120 := Nat.le_trans (Nat.div_le_self _ _) hN
      have eco := tdivOb (x := N) c1 (by omega)
      have gs := gcdI_sp (dvG N j) (N / (dvG N j) : Nat) (by omega) (by omega)
      have g1 : 1 ≤ Nat.gcd (dvG N j) (N / (dvG N j)) := Nat.gcd_pos_of_pos_left _ c1
      have g2 : Nat.gcd (dvG N j) (N / (dvG N j)) ≤ 120 := Nat.le_trans (Nat.le_of_dvd c1 (Nat.gcd_dvd_left _ _)) (by omega)
      have eg : Int.gcd ((dvG N j) : Int) ((N / (dvG N j) : Nat) : Int) = Nat.gcd (dvG N j) (N / (dvG N j)) := rfl
      rw [eg] at gs
      have eD : (N : Int).tdiv (Δ.natAbs : Nat) = ((N / Δ.natAbs : Nat) : Int) := (Int.ofNat_tdiv N _).symm
      have lDD := Nat.div_le_self N Δ.natAbs
      have eDo := tdivOb (x := N) (y := Δ.natAbs) (by omega) (by omega)
      have em : ((N : Int).tdiv (Δ.natAbs : Nat)).tmod (Nat.gcd (dvG N j) (N / (dvG N j)) : Nat) = ((N / Δ.natAbs % Nat.gcd (dvG N j) (N / (dvG N j)) : Nat) : Int) := by rw [eD]; exact (Int.ofNat_tmod _ _).symm
      have eq : ((o : Int) - d).tmod (Nat.gcd (dvG N j) (N / (dvG N j)) : Nat) = 0 ↔ ((Nat.gcd (dvG N j) (N / (dvG N j)) : Nat) : Int) ∣ ((n / d : Nat) : Int) - (d : Int) := by rw [ho]; exact tmod_dvd
      by_cases hA : N / Δ.natAbs % Nat.gcd (dvG N j) (N / (dvG N j)) = 0
      · by_cases hB : ((o : Int) - d).tmod (Nat.gcd (dvG N j) (N / (dvG N j)) : Nat) = 0
        · have hC : hinC N Δ n d (dvG N j) := ⟨hA, eq.1 hB⟩
          obtain ⟨R, M, ok⟩ := yy_ok hN1 hN c2 hC.2
          have yb := ok.bd
          have hin : hinT N Δ n d (dvG N j) = phi (Nat.gcd (dvG N j) (N / (dvG N j))) * chiZ N Δ (yyZ N n d (dvG N j)) := by unfold hinT; rw [if_pos hC]
          rw [hin] at ni bI2
          have ph := aphi_sp (Nat.gcd (dvG N j) (N / (dvG N j))) g1 (by omega)
          have p0 := phi_pos g1
          have p1 := phi_le g1
          have ch := chiZ_tri N Δ yb.1
          have cs := tchi_sp N k Δ n (yyZ N n d (dvG N j)) yb.1 (by omega) hN d1 d2
          have cr := tcrt_sp (fun q => if q = 0 then ((d : Int), ((dvG N j) : Int)) else (((n / d : Nat) : Int), ((N / (dvG N j) : Nat) : Int))) R M ok.e
          have pc := mulbz (x := phi (Nat.gcd (dvG N j) (N / (dvG N j)))) (y := chiZ N Δ (yyZ N n d (dvG N j))) (X := 120) (Y := 1) (by omega) (by omega)
          obtain ⟨_, r0, r1, rM, yE, _, _⟩ := ok
          rw [hA] at em
          rw [← ho] at cr
          clear hin ch hC eq
          generalize yyZ N n d (dvG N j) = y at *
          generalize chiZ N Δ y = X at *
          generalize phi (Nat.gcd (dvG N j) (N / (dvG N j))) = P at *
          generalize Nat.gcd (dvG N j) (N / (dvG N j)) = g at *
          repeat' ((conv => whnf); first | (refine Ob.mk eDo ?_) | (refine Ob.mk eco ?_) | refine Ja ?_ | refine Jb ?_ | refine Je ?_ | refine Jf ?_ | refine Jg rfl ?_ | refine Sp.call (gs) (.cons (.refl _) (.cons (.int ec) .nil)) rfl (AvLe.refl _) ?_ | refine Jy ph ?_ | refine Sp.call (cr) (.cons (.leaf (.sl fun i j hi hj => match i, j, hi, hj with | 0, 0, _, _ => .refl _ | 0, 1, _, _ => .refl _ | 1, 0, _, _ => .refl _ | 1, 1, _, _ => .int ec)) .nil) rfl (AvLe.refl _) ?_ | refine Sp.call (cs) (.cons (.refl _) (.cons (.int (by omega)) .nil)) rfl (AvLe.refl _) ?_)
          exact ⟨(j + 1, I + P * X), [], ⟨by omega, ni.symm⟩, by show LC - (j + 1) < LC - j; omega, Ent.g⟩
        · have e0 : hinT N Δ n d (dvG N j) = 0 := by unfold hinT; rw [if_neg fun h => hB (eq.2 h.2)]
          rw [e0, Int.add_zero] at ni
          rw [hA] at em
          clear e0 eq bI2
          generalize Nat.gcd (dvG N j) (N / (dvG N j)) = g at *
          repeat' ((conv => whnf); first | (refine Ob.mk eDo ?_) | (refine Ob.mk eco ?_) | refine Ja ?_ | refine Jb ?_ | refine Je ?_ | refine Jf ?_ | refine Jg rfl ?_ | refine Sp.call (gs) (.cons (.refl _) (.cons (.int ec) .nil)) rfl (AvLe.refl _) ?_)
          exact ⟨(j + 1, I), [], ⟨by omega, ni.symm⟩, by show LC - (j + 1) < LC - j; omega, Ent.g⟩
      · have e0 : hinT N Δ n d (dvG N j) = 0 := by unfold hinT; rw [if_neg fun h => hA h.1]
        rw [e0, Int.add_zero] at ni
        clear e0 eq bI2
        generalize Nat.gcd (dvG N j) (N / (dvG N j)) = g at *
        repeat' ((conv => whnf); first | (refine Ob.mk eDo ?_) | (refine Ob.mk eco ?_) | refine Ja ?_ | refine Jb ?_ | refine Je ?_ | refine Jg rfl ?_ | refine Sp.call (gs) (.cons (.refl _) (.cons (.int ec) .nil)) rfl (AvLe.refl _) ?_)
        exact ⟨(j + 1, I), [], ⟨by omega, ni.symm⟩, by show LC - (j + 1) < LC - j; omega, Ent.g⟩
    · obtain rfl : j = LC := by omega
      rw [← hI, ← ho] at nx lS2
      clear hI hiT hi0 hinB atC
      have pw := power_sp ((min d o : Nat) : Int) (k - 1) (by omega) (by omega) (by omega)
      have lX : ln (((min d o : Nat) : Int) ^ (k - 1)).natAbs ≤ 100 := by have := ln_pow (a := ((min d o : Nat) : Int)) (ln_of (k := 1) (by show _ < 4294967296; omega)) (k - 1); omega
      have emn : (if (o : Int) < d then (o : Int) else d) = ((min d o : Nat) : Int) := by split <;> omega
      generalize ((min d o : Nat) : Int) ^ (k - 1) = X at *
      have oI := ROf_sp I (by omega) (by omega)
      have ml := RMul_sp ((X : Int) : Rat) ((I : Int) : Rat) ((QB.int lX (by omega)).mono (by omega)) ((QB.i64 (by omega) (by omega)).mono (by omega))
      rw [← Rat.intCast_mul] at ml
      have lXI : ln (X * I).natAbs ≤ 200 := by rw [Int.natAbs_mul]; have := ln_mul X.natAbs I.natAbs; have : ln I.natAbs ≤ 2 := ln_two (by omega); omega
      have ad := RAdd_sp ((S : Int) : Rat) ((X * I : Int) : Rat) ((QB.int lS (by omega)).mono (by omega)) ((QB.int lXI (by omega)).mono (by omega))
      rw [← Rat.intCast_add] at ad
      clear lX lXI lS lS2
      repeat' ((conv => whnf); first | refine Jb ?_ | refine Jf ?_ | refine Ji ?_ | refine Jj ?_ | refine Jk rfl ?_ | refine Sp.call (pw) (.cons (.int emn) (.cons (.int (by omega)) .nil)) rfl (AvLe.refl _) ?_ | refine Jy oI ?_ | refine Jy ml ?_ | refine Jy ad ?_)
      exact ⟨(i + 1, S + X * I), [], ⟨by omega, nx.symm⟩, by show LD - (i + 1) < LD - i; omega, Ent.g⟩
  · obtain rfl : i = LD := by omega
    have : S = T := by rw [hT, hS]
    subst this
    clear hT hS o0
    repeat' ((conv => whnf); first | refine Jf ?_ | refine Jy hh ?_)
    refine ⟨⟨_, _, rfl, rfl, ?_⟩⟩
    exact AvLe.refl _
end Go.Proofs.YtdjfndfkjbjcpaaGreatDoor

