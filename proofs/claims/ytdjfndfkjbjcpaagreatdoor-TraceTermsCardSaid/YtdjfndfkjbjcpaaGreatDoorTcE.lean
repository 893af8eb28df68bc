/- The trace formula in letters: Sigma, Parts, Trace, Fixed. -/
import Derived.Test.YtdjfndfkjbjcpaaGreatDoorPkTcA
import Derived.Test.YtdjfndfkjbjcpaaGreatDoorPkDmH
import Derived.Test.YtdjfndfkjbjcpaaGreatDoorPkDmK
namespace HP
theorem mainN_ln {N k n : Nat} {Δ : Int} (hN1 : 1 ≤ N) (hN : N ≤ 120) (hk : k ≤ 24) (n1 : 1 ≤ n) (n2 : n ≤ 128) : ln (mainN N k Δ n).natAbs ≤ 4 := by
  obtain ⟨r1, r2, _⟩ := rtN_spec n1 n2
  obtain ⟨p1, p2⟩ := psi_sm hN1 hN
  have ch := chiZ_tri N Δ r1
  unfold mainN
  split
  · unfold mainZ
    have x1 := abs_mul (a := chiZ N Δ (rtN n)) (b := (k : Int) - 1) (x := 1) (y := 24) (by omega) (by omega)
    have x2 := abs_mul (b := psi N) (y := 400) x1 (by omega)
    have x3 : ((rtN n : Int) ^ (k - 2)).natAbs ≤ 12 ^ 22 := by
      rw [← Int.natCast_pow, Int.natAbs_natCast]
      exact Nat.le_trans (Nat.pow_le_pow_left r2 _) (Nat.pow_le_pow_right (by omega) (by omega))
    exact ln_of (Nat.lt_of_le_of_lt (abs_mul x2 x3) (by decide))
  · decide
theorem sigN_bd {n : Nat} (n1 : 1 ≤ n) (n2 : n ≤ 128) {m : Nat} (hm : m ≤ (dvs n).length) : 0 ≤ sumJ (fun i => (dvG n i : Int)) m ∧ sumJ (fun i => (dvG n i : Int)) m ≤ 128 * m := by
  induction m with
  | zero => exact ⟨Int.le_refl _, Int.le_refl _⟩
  | succ m ih =>
    have h := ih (by omega)
    have g := dvG_at n1 (i := m) (by omega)
    unfold sumJ
    omega
theorem tw_all {a b c d : Int} : tw a - tw b - tw (6 * c) + (d : Rat) = tw (a - b - 6 * c + 12 * d) := by
  rw [tw_sub, tw_sub, int_tw d, tw_add]
end HP
namespace Go.Proofs.YtdjfndfkjbjcpaaGreatDoor
open Go Go.RowKit Go.VG HP
def trE (L K D n : Int) : Int := if dchk L K D ≠ 0 then dchk L K D else if n < 1 ∨ 128 < n then 2 else if Int.gcd n L = 1 then 0 else 9
theorem ain_sp (n : Int) (h1 : 1 ≤ n) (h2 : n ≤ 2147483647) : Sp CX 47 [int .i64 n] (bool true) := by
  refine fn_sp (C := CX) [] [] tysX_ok mixed Tryz.func47 rfl (by kernel_rfl) Tryz.ntmps47 rfl rfl ?_
  repeat' ((conv => whnf); first | refine Je ?_)
  refine ⟨⟨_, _, rfl, rfl, ?_⟩⟩
  exact AvLe.bool (decide_eq_true h2)
set_option maxHeartbeats 4000000 in
theorem sigma_sp (n : Nat) (n1 : 1 ≤ n) (n2 : n ≤ 128) : Sp CX 19 [int .i64 1, int .i64 n] (.tup [zV (sigN n), .c (ix 0)]) := by
  have a := ain_sp n (by omega) (by omega)
  have ds := divisors_sp n (dvG n) (dvs n).length dvG_z rfl n1 (by omega)
  have o0 := Of_sp 0 (by omega) (by omega)
  have lD := dvs_len' n
  have atD : ∀ i, i < (dvs n).length → 1 ≤ dvG n i ∧ dvG n i ∣ n ∧ dvG n i ≤ n := fun i hi => dvG_at n1 hi
  have sb := @sigN_bd n n1 n2
  have s1 : ∀ m, sumJ (fun i => (dvG n i : Int)) (m + 1) = sumJ (fun i => (dvG n i : Int)) m + dvG n m := fun _ => rfl
  have s0 : sumJ (fun i => (dvG n i : Int)) 0 = 0 := rfl
  unfold sigN
  generalize (dvs n).length = LD at *
  refine fn_sp (C := CX) [] [] tysX_ok mixed Tryz.func19 rfl (by kernel_rfl) Tryz.ntmps19 rfl rfl ?_
  repeat' ((conv => whnf); first | refine Jf ?_ | refine Jy a ?_ | refine Jy ds ?_ | refine Jy o0 ?_)
  refine ⟨⟨Nat × Int, fun (i, S) => ⟨[(0, int .i64 1), (4, .v (.c (.loc 0 0))), (8, .v (.c (.loc 1 0))), (31, dvA n LD), (32, int .i64 LD), (33, int .i64 i)], [(0, .st iZs), (1, .st (iLs S))], 2⟩, fun (i, S) => i ≤ LD ∧ S = sumJ (fun i => (dvG n i : Int)) i, fun (i, _) => LD - i, ⟨(0, 0), [], ⟨Nat.zero_le _, s0.symm⟩, Ent.g⟩, ?_⟩⟩
  rintro ⟨i, S⟩ ⟨hi, hS⟩
  clear a ds o0
  by_cases hc : i < LD
  · have nx := s1 i
    rw [← hS] at nx
    have b := sb (m := i) hi
    rw [← hS] at b
    obtain ⟨x1, _, x3⟩ := atD i hc
    have od := Of_sp (dvG n i : Nat) (by omega) (by omega)
    have p := BPow_sp (dvG n i : Nat) 1 (ln_of (k := 1) (by show _ < 4294967296; omega)) (by omega)
    rw [Int.pow_succ, Int.pow_zero, Int.one_mul] at p
    have ad := Add_sp S (dvG n i : Nat) (by have := ln64 (n := S) (by omega) (by omega); omega) (by have := ln64 (n := ((dvG n i : Nat) : Int)) (by omega) (by omega); omega)
    clear sb s1 s0 hS atD
    repeat' ((conv => whnf); first | refine Jb ?_ | refine Je ?_ | refine Jg rfl ?_ | refine Jy od ?_ | refine Jy p ?_ | refine Jy ad ?_)
    exact ⟨(i + 1, S + dvG n i), [], ⟨by omega, nx.symm⟩, by show LD - (i + 1) < LD - i; omega, Ent.g⟩
  · obtain rfl : i = LD := by omega
    rw [← hS]
    clear hS sb s1 s0 atD
    repeat' ((conv => whnf); first | refine Jf ?_)
    refine ⟨⟨_, _, rfl, rfl, ?_⟩⟩
    exact AvLe.refl _
def ptV (a b c d : Rat) : V1 := .agg (rLs a ++ rLs b ++ rLs c ++ rLs d)
def ptZ : V1 := .agg (rZs ++ rZs ++ rZs ++ rZs)
theorem Parts_bad (L K D n : Int) (h : trE L K D n ≠ 0) : Sp CX 6 [specA L K D, int .i64 n] (.tup [ptZ, .c (ix (trE L K D n))]) := by
  have s := checkm_sp L K D
  unfold trE at h ⊢
  by_cases h1 : dchk L K D = 0
  · rw [if_neg (fun x => x h1)] at h ⊢
    rw [h1] at s
    obtain ⟨N, k, rfl, rfl, ok⟩ := dchk_out h1
    clear h1
    by_cases h2 : n < 1 ∨ 128 < n
    · rw [if_pos h2]
      by_cases h3 : n < 1
      · refine fn_sp (C := CX) [] [] tysX_ok mixed Tryz.func6 rfl (by kernel_rfl) Tryz.ntmps6 rfl rfl ?_
        repeat' ((conv => whnf); first | refine Je ?_ | refine Jf ?_ | refine Jy s ?_)
        refine ⟨⟨_, _, rfl, rfl, ?_⟩⟩
        exact AvLe.refl _
      · refine fn_sp (C := CX) [] [] tysX_ok mixed Tryz.func6 rfl (by kernel_rfl) Tryz.ntmps6 rfl rfl ?_
        repeat' ((conv => whnf); first | refine Je ?_ | refine Jf ?_ | refine Jy s ?_)
        refine ⟨⟨_, _, rfl, rfl, ?_⟩⟩
        exact AvLe.refl _
    · rw [if_neg h2] at h ⊢
      have hN := ok.n1
      have g := gcdI_sp n N (by omega) (by omega)
      by_cases h4 : Int.gcd n N = 1
      · rw [if_pos h4] at h
        exact absurd rfl h
      · rw [if_neg h4]
        generalize Int.gcd n N = G at *
        refine fn_sp (C := CX) [] [] tysX_ok mixed Tryz.func6 rfl (by kernel_rfl) Tryz.ntmps6 rfl rfl ?_
        repeat' ((conv => whnf); first | refine Je ?_ | refine Jf ?_ | refine Jy s ?_ | refine Jy g ?_)
        refine ⟨⟨_, _, rfl, rfl, ?_⟩⟩
        exact AvLe.refl _
  · rw [if_pos h1] at h ⊢
    generalize dchk L K D = e at *
    refine fn_sp (C := CX) [] [] tysX_ok mixed Tryz.func6 rfl (by kernel_rfl) Tryz.ntmps6 rfl rfl ?_
    repeat' ((conv => whnf); first | refine Je ?_ | refine Jy s ?_)
    refine ⟨⟨_, _, rfl, rfl, ?_⟩⟩
    exact AvLe.refl _
theorem trE_ok {L K D n : Int} (h : trE L K D n = 0) : ∃ N k m : Nat, L = N ∧ K = k ∧ n = m ∧ DOk N k D ∧ 1 ≤ m ∧ m ≤ 128 ∧ Nat.gcd m N = 1 := by
  unfold trE at h
  by_cases h1 : dchk L K D = 0
  · rw [if_neg (fun x => x h1)] at h
    obtain ⟨N, k, rfl, rfl, ok⟩ := dchk_out h1
    by_cases h2 : n < 1 ∨ 128 < n
    · rw [if_pos h2] at h; cases h
    · rw [if_neg h2] at h
      obtain ⟨m, rfl⟩ := Int.eq_ofNat_of_zero_le (a := n) (by omega)
      by_cases h4 : Int.gcd (m : Int) N = 1
      · exact ⟨N, k, m, rfl, rfl, rfl, ok, by omega, by omega, h4⟩
      · rw [if_neg h4] at h; cases h
  · rw [if_pos h1] at h
    exact absurd h h1
theorem trE_zero {N k n : Nat} {Δ : Int} (ok : DOk N k Δ) (n1 : 1 ≤ n) (n2 : n ≤ 128) (hg : Nat.gcd n N = 1) : trE N k Δ n = 0 := by
  unfold trE
  rw [ok.chk, if_neg (fun x => x rfl), if_neg (by omega), if_pos (show Int.gcd (n : Int) (N : Int) = 1 from hg)]
set_option maxHeartbeats 4000000 in
theorem Parts_ok (N k n : Nat) (Δ : Int) (ok : DOk N k Δ) (n1 : 1 ≤ n) (n2 : n ≤ 128) (hg : Nat.gcd n N = 1) : Sp CX 6 [specA N k Δ, int .i64 n] (.tup [ptV (tw (mainN N k Δ n)) (tw (ellZ N k Δ n)) (tw (6 * hypZ N k Δ n (dvs n).length)) ((wtZ k Δ n : Int) : Rat), .c (ix 0)]) := by
  have s := checkm_sp N k Δ
  rw [ok.chk] at s
  obtain ⟨hN1, hN, hk1, hk, d1, d2, dz, _, _, _, _, _⟩ := ok
  have g := gcdI_sp n N (by omega) (by omega)
  have eg : Int.gcd (n : Int) N = 1 := hg
  rw [eg] at g
  have p1 := main_sp N k n Δ hN1 hN hk1 hk d1 d2 n1 n2
  have p2 := elliptic_sp N k n Δ hN1 hN hk1 hk d1 d2 n1 n2
  have p3 := hyper_sp N k n Δ hN1 hN hk1 hk d1 d2 dz n1 n2
  have o0 := ROf_sp 0 (by omega) (by omega)
  have sg := sigma_sp n n1 n2
  have sb := sigN_bd n1 n2 (Nat.le_refl _)
  have lD := dvs_len' n
  have sb2 : 0 ≤ sigN n ∧ sigN n ≤ 128 * ((dvs n).length : Int) := sb
  have w := Whole_sp (sigN n) (by have := ln64 (n := sigN n) (by omega) (by omega); omega)
  unfold wtZ
  clear sb sb2 lD eg hg
  generalize sigN n = X at *
  generalize tw (mainN N k Δ n) = q1 at *
  generalize tw (ellZ N k Δ n) = q2 at *
  generalize tw (6 * hypZ N k Δ n (dvs n).length) = q3 at *
  by_cases h1 : k = 2
  · by_cases h2 : Δ = 1
    · rw [if_pos ⟨h1, h2⟩]
      refine fn_sp (C := CX) [] [] tysX_ok mixed Tryz.func6 rfl (by kernel_rfl) Tryz.ntmps6 rfl rfl ?_
      repeat' ((conv => whnf); first | refine Je ?_ | refine Jf ?_ | refine Ji ?_ | refine Jk rfl ?_ | refine Jl ?_ | refine Jo ?_ | refine Jp ?_ | refine Jq rfl ?_ | refine Jy s ?_ | refine Jy g ?_ | refine Jy p1 ?_ | refine Jy p2 ?_ | refine Jy p3 ?_ | refine Jy o0 ?_ | refine Jy sg ?_ | refine Jy w ?_)
      refine ⟨⟨_, _, rfl, rfl, ?_⟩⟩
      exact AvLe.refl _
    · rw [if_neg fun h => h2 h.2]
      refine fn_sp (C := CX) [] [] tysX_ok mixed Tryz.func6 rfl (by kernel_rfl) Tryz.ntmps6 rfl rfl ?_
      repeat' ((conv => whnf); first | refine Je ?_ | refine Jf ?_ | refine Ji ?_ | refine Jk rfl ?_ | refine Jl ?_ | refine Jo ?_ | refine Jp ?_ | refine Jq rfl ?_ | refine Jy s ?_ | refine Jy g ?_ | refine Jy p1 ?_ | refine Jy p2 ?_ | refine Jy p3 ?_ | refine Jy o0 ?_)
      refine ⟨⟨_, _, rfl, rfl, ?_⟩⟩
      exact AvLe.refl _
  · rw [if_neg fun h => h1 h.1]
    refine fn_sp (C := CX) [] [] tysX_ok mixed Tryz.func6 rfl (by kernel_rfl) Tryz.ntmps6 rfl rfl ?_
    repeat' ((conv => whnf); first | refine Jf ?_ | refine Ji ?_ | refine Jk rfl ?_ | refine Jl ?_ | refine Jo ?_ | refine Jp ?_ | refine Jq rfl ?_ | refine Jy s ?_ | refine Jy g ?_ | refine Jy p1 ?_ | refine Jy p2 ?_ | refine Jy p3 ?_ | refine Jy o0 ?_)
    refine ⟨⟨_, _, rfl, rfl, ?_⟩⟩
    exact AvLe.refl _
structure TrQ (a b c d : Rat) (X : Int) : Prop where
  qa : QB 100 a
  qb : QB 100 b
  qc : QB 100 c
  qd : QB 100 d
  e : a - b - c + d = (X : Rat)
  x : ln X.natAbs ≤ 100
theorem QB.ln_int {z : Int} {k : Nat} (h : QB k (z : Rat)) : ln z.natAbs ≤ k := by
  have := h.1
  rwa [Rat.num_intCast] at this
theorem trQ_ok {N k n : Nat} {Δ : Int} (ok : DOk N k Δ) (n1 : 1 ≤ n) (n2 : n ≤ 128) (h : (12 : Int) ∣ T12 N k Δ n) : TrQ (tw (mainN N k Δ n)) (tw (ellZ N k Δ n)) (tw (6 * hypZ N k Δ n (dvs n).length)) ((wtZ k Δ n : Int) : Rat) (T12 N k Δ n / 12) := by
  obtain ⟨hN1, hN, hk1, hk, d1, d2, dz, _, _, _, _, _⟩ := ok
  have sb := sigN_bd n1 n2 (Nat.le_refl _)
  have lD := dvs_len' n
  have sb2 : 0 ≤ sigN n ∧ sigN n ≤ 128 * ((dvs n).length : Int) := sb
  have w1 : ln (wtZ k Δ n).natAbs ≤ 2 := by
    unfold wtZ
    split
    · exact ln64 (by omega) (by omega)
    · decide
  have w := QB.int (k := 2) w1 (by omega)
  have e : tw (mainN N k Δ n) - tw (ellZ N k Δ n) - tw (6 * hypZ N k Δ n (dvs n).length) + ((wtZ k Δ n : Int) : Rat) = ((T12 N k Δ n / 12 : Int) : Rat) := by
    rw [tw_all, ← tw_int h]
    rfl
  have q1 := (tw_QB (k := 4) (mainN_ln (k := k) (Δ := Δ) hN1 hN hk n1 n2) (by omega))
  have q2 := (tw_QB (k := 7) (ell_ln (N := N) (k := k) (Δ := Δ) (n := n) hN1 hN hk (by omega) (by omega) (m := (2 * (n : Int) + 3).toNat) (by omega)) (by omega))
  have q3 := (tw_QB (k := 6) (hypZ_ln (Δ := Δ) hN1 hN hk n2 (Nat.le_refl _)).2 (by omega))
  have qq := ((q1.sub q2).sub q3).add w
  refine ⟨q1.mono (by omega), q2.mono (by omega), q3.mono (by omega), w.mono (by omega), e, ?_⟩
  have e2 : QB (4 + 7 + 1 + 6 + 1 + 2 + 1) ((T12 N k Δ n / 12 : Int) : Rat) := by rw [← e]; exact qq
  have := e2.ln_int
  omega
theorem Trace_core (L K D n : Int) (a b c d : Rat) (X : Int) (p : Sp CX 6 [specA L K D, int .i64 n] (.tup [ptV a b c d, .c (ix 0)])) (q : TrQ a b c d X) : Sp CX 9 [specA L K D, int .i64 n] (.tup [zV X, .c (ix 0)]) := by
  obtain ⟨qa, qb, qc, qd, e, x⟩ := q
  have s1 := RSub_sp a b (qa.mono (by omega)) (qb.mono (by omega))
  have s2 := RSub_sp (a - b) c ((qa.sub qb).mono (by omega)) (qc.mono (by omega))
  have s3 := RAdd_sp (a - b - c) d (((qa.sub qb).sub qc).mono (by omega)) (qd.mono (by omega))
  rw [e] at s3
  have i := Integer_sp X (by omega)
  generalize a - b - c = z at *
  generalize a - b = y at *
  refine fn_sp (C := CX) [] [] tysX_ok mixed Tryz.func9 rfl (by kernel_rfl) Tryz.ntmps9 rfl rfl ?_
  repeat' ((conv => whnf); first | refine Jf ?_ | refine Ji ?_ | refine Jk rfl ?_ | refine Jl ?_ | refine Jo ?_ | refine Jp ?_ | refine Jq rfl ?_ | refine Jy p ?_ | refine Jy s1 ?_ | refine Jy s2 ?_ | refine Jy s3 ?_ | refine Jy i ?_)
  refine ⟨⟨_, _, rfl, rfl, ?_⟩⟩
  exact AvLe.refl _
theorem Trace_ok (N k n : Nat) (Δ : Int) (ok : DOk N k Δ) (n1 : 1 ≤ n) (n2 : n ≤ 128) (hg : Nat.gcd n N = 1) (h : (12 : Int) ∣ T12 N k Δ n) : Sp CX 9 [specA N k Δ, int .i64 n] (.tup [zV (T12 N k Δ n / 12), .c (ix 0)]) :=
  Trace_core N k Δ n _ _ _ _ _ (Parts_ok N k n Δ ok n1 n2 hg) (trQ_ok ok n1 n2 h)
def fixZ (n : Nat) : Int := (clsN (4 * n) : Int) + if n % 4 = 3 then (clsN n : Int) else 0
theorem Fixed_ok (n : Nat) (h1 : 5 ≤ n) (h2 : n ≤ 120) : Sp CX 10 [int .i64 n] (.tup [.c (ix (fixZ n)), .c (ix 0)]) := by
  have p1 : posD (4 * n) := ⟨by omega, by omega, .inl (by omega)⟩
  have s1 := Number_sp (4 * n) p1
  have l1 := clsN_le p1.2.1
  have em : (n : Int).tmod 4 = ((n % 4 : Nat) : Int) := (Int.ofNat_tmod n 4).symm
  unfold fixZ
  by_cases h : n % 4 = 3
  · have p2 : posD n := ⟨by omega, by omega, .inr h⟩
    have s2 := Number_sp n p2
    have l2 := clsN_le p2.2.1
    rw [if_pos h]
    generalize clsN n = B at *
    generalize clsN (4 * n) = A at *
    refine fn_sp (C := CX) [] [] tysX_ok mixed Tryz.func10 rfl (by kernel_rfl) Tryz.ntmps10 rfl rfl ?_
    repeat' ((conv => whnf); first | refine Ja ?_ | refine Jb ?_ | refine Je ?_ | refine Jf ?_ | refine Sp.call (s1) (.cons (.int (by omega)) .nil) rfl (AvLe.refl _) ?_ | refine Jy s2 ?_)
    refine ⟨⟨_, _, rfl, rfl, ?_⟩⟩
    exact AvLe.refl _
  · rw [if_neg h]
    generalize clsN (4 * n) = A at *
    refine fn_sp (C := CX) [] [] tysX_ok mixed Tryz.func10 rfl (by kernel_rfl) Tryz.ntmps10 rfl rfl ?_
    repeat' ((conv => whnf); first | refine Ja ?_ | refine Jb ?_ | refine Jf ?_ | refine Sp.call (s1) (.cons (.int (by omega)) .nil) rfl (AvLe.refl _) ?_)
    refine ⟨⟨_, _, rfl, rfl, ?_⟩⟩
    exact .tup (.cons (.int (by omega)) (.cons (.refl _) .nil))
end Go.Proofs.YtdjfndfkjbjcpaaGreatDoor
