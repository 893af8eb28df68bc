/- Own texts joined: RhC, RhD, RhE. -/
import Derived.Test.YtdjfndfkjbjcpaaGreatDoorRhB
import Derived.Test.YtdjfndfkjbjcpaaGreatDoorTlA
/- The reference's trace formula in letters: Elliptic. -/
namespace HP
def ellR (N k : Nat) (Δ n : Int) : Nat → Int := sumJ fun i => ellT N k Δ n ((i : Int) - 2 * n)
theorem sumJ_z {f : Nat → Int} : ∀ m, (∀ i, i < m → f i = 0) → sumJ f m = 0
  | 0, _ => rfl
  | m + 1, h => by rw [sumJ, sumJ_z m (fun i hi => h i (by omega)), h m (by omega)]; rfl
theorem ellT_z {N k n : Nat} {Δ t : Int} (h : n + 2 ≤ t.natAbs) : ellT N k Δ n t = 0 := by
  unfold ellT
  rw [if_neg]
  intro hlt
  have e : t * t = ((t.natAbs * t.natAbs : Nat) : Int) := by rw [Int.natCast_mul]; exact (Int.natAbs_mul_self' t).symm
  have h1 := Nat.mul_le_mul h h
  have h2 : (n + 2) * (n + 2) = n * n + 4 * n + 4 := by rw [Nat.add_mul, Nat.mul_add]; omega
  rw [e] at hlt
  omega
theorem ellS_U (N k : Nat) (Δ n : Int) : ∀ m, ellS N k Δ n m = sumJ (fun i => ellT N k Δ n ((i : Int) - n - 1)) m
  | 0 => rfl
  | m + 1 => by rw [ellS, sumJ, ellS_U N k Δ n m]
theorem sumJ_two (f : Nat → Int) (a : Nat) : ∀ b, sumJ f (a + b) = sumJ f a + sumJ (fun i => f (a + i)) b
  | 0 => (Int.add_zero _).symm
  | b + 1 => by
    show sumJ f (a + b) + f (a + b) = sumJ f a + (sumJ (fun i => f (a + i)) b + f (a + b))
    rw [sumJ_two f a b]
    omega
theorem ellR_all {N k n : Nat} {Δ : Int} (n1 : 1 ≤ n) : ellR N k Δ n (4 * n + 1) = ellZ N k Δ n := by
  unfold ellR ellZ
  rw [show 4 * n + 1 = (n - 1) + ((2 * n + 3) + (n - 1)) by omega, sumJ_two, sumJ_z (n - 1) fun i hi => ellT_z (by omega), sumJ_two, sumJ_z (n - 1) fun i hi => ellT_z (by omega), ellS_U,
    show (2 * (n : Int) + 3).toNat = 2 * n + 3 by omega, Int.zero_add, Int.add_zero]
  refine sumJ_congr fun i hi => ?_
  rw [show (((n - 1 + i : Nat) : Int) - 2 * (n : Int)) = (i : Int) - n - 1 by omega]
theorem ellR_ln {N k n : Nat} {Δ : Int} (h1 : 1 ≤ N) (h2 : N ≤ 120) (hk : k ≤ 24) (n1 : 1 ≤ n) (n2 : n ≤ 128) {m : Nat} (hm : m ≤ 513) : ln (ellR N k Δ n m).natAbs ≤ 7 := by
  have b := sumJ_bd (f := fun i => ellT N k Δ n ((i : Int) - 2 * n)) (B := 256 ^ 22 * 8439552000) (m := m) fun i _ => ellT_bd h1 h2 hk (by omega) (by omega)
  have c := Nat.mul_le_mul_right (256 ^ 22 * 8439552000) hm
  exact ln_of (Nat.lt_of_le_of_lt (Nat.le_trans b c) (by decide))
theorem posD_mod {Q : Nat} (h1 : 1 ≤ Q) (h2 : Q ≤ 512) : (-(Q : Int)) % 4 < 2 ↔ posD Q := by
  unfold posD
  omega
end HP
namespace Go.Proofs.YtdjfndfkjbjcpaaGreatDoor
open Go Go.RowKit Go.VG HP
set_option maxHeartbeats 16000000 in
set_option maxRecDepth 20000 in
theorem rElliptic_sp (N k n : Nat) (Δ : Int) (hN1 : 1 ≤ N) (hN : N ≤ 120) (hk1 : 2 ≤ k) (hk : k ≤ 24) (d1 : -120 ≤ Δ) (d2 : Δ ≤ 120) (z : Δ ≠ 0) (h4 : Δ % 4 = 0 ∨ Δ % 4 = 1) (dv : Δ.natAbs ∣ N) (n1 : 1 ≤ n) (n2 : n ≤ 128) : Sp CX 23 [specA N k Δ, int .i64 n] (qA (tw (ellZ N k Δ n))) := by
  have o0 := bQ_sp 0 (by omega) (by omega)
  rw [← sx_zero] at o0
  have hf := FracQ_sp 1 2 (by omega) (by omega) (by omega) (by omega)
  have lE : ln (ellZ N k Δ n).natAbs ≤ 7 := ell_ln hN1 hN hk (by omega) (by omega) (by omega)
  have hm := Mul2_sp (sx (ellZ N k Δ n)) (Rat.divInt 1 2) ((sx_QB (k := 7) lE (by omega)).mono (by omega)) ((QB.divInt (k := 2) (d := 2) (by omega) (by decide) (by decide)).mono (by omega))
  have eh : sx (ellZ N k Δ n) * Rat.divInt 1 2 = tw (ellZ N k Δ n) := by
    rw [← sx_half, divInt_div]
    grind
  rw [eh] at hm
  obtain ⟨T, hT⟩ : ∃ T, T = ellZ N k Δ n := ⟨_, rfl⟩
  rw [← hT] at hm ⊢
  clear eh lE
  refine fn_sp (C := CX) [] [] tysX_ok mixed Tryz.func23 rfl (by kernel_rfl) Tryz.ntmps23 rfl rfl ?_
  repeat' ((conv => whnf); first | refine Jb ?_ | refine Jy o0 ?_)
  refine ⟨⟨Nat × Int × Int, fun (m, t, S) => ⟨[(1, int .i64 n), (2, .v (.c (.loc 0 0))), (4, .v (.c (.loc 1 0))), (5, .v (.c (.loc 2 0))), (6, int .i64 t)], [(0, .st [ix N, ix k, ix Δ]), (1, .st rZs), (2, .st (rLs (sx S)))], 3⟩, fun (m, t, S) => m ≤ 4 * n + 1 ∧ t = (m : Int) - 2 * n ∧ S = ellR N k Δ n m, fun (m, _, _) => 4 * n + 1 - m, ⟨(0, -2 * (n : Int), 0), [], ⟨Nat.zero_le _, by omega, rfl⟩, Ent.g⟩, ?_⟩⟩
  rintro ⟨m, t, S⟩ ⟨hm', et, hS⟩
  by_cases hc : m < 4 * n + 1
  · have nx : ellR N k Δ n (m + 1) = S + ellT N k Δ n t := by rw [hS, et]; rfl
    have lS : ln S.natAbs ≤ 7 := by rw [hS]; exact ellR_ln hN1 hN hk (by omega) (by omega) (by omega)
    have tt := mulbz (x := t) (y := t) (X := 256) (Y := 256) (by omega) (by omega)
    have tp := qsq_bd (b := t) (B := 256) (by omega)
    clear hT hS hm hf
    by_cases hd : t * t < 4 * (n : Int)
    · obtain ⟨D, hD⟩ : ∃ D : Nat, D = (4 * (n : Int) - t * t).toNat := ⟨_, rfl⟩
      have eD : t * t - 4 * (n : Int) = -(D : Int) := by omega
      have D1 : 1 ≤ D := by omega
      have D2 : D ≤ 512 := by omega
      have ht : t.natAbs < 23 := sqz (x := 23) (by omega)
      have eT : ellT N k Δ n t = (pk t n (k - 2)).2 * innZ N Δ t n D 22 := by unfold ellT; rw [if_pos hd, ← hD]
      rw [eT] at nx
      have lT : ln ((pk t n (k - 2)).2 * innZ N Δ t n D 22).natAbs ≤ 7 := by rw [← eT]; exact elT_ln hN1 hN hk (by omega) (by omega)
      have cf := rseries_sp t n (k - 2) (by omega) (by omega) (by omega)
      have ek : (k : Int) - 2 = ((k - 2 : Nat) : Int) := by omega
      have pb := (pk_22 (t := t) (n := n) (by omega) (by omega) (show k - 2 ≤ 22 by omega)).2
      have lp := ln256 pb
      clear eT hD pb
      generalize (pk t n (k - 2)).2 = P at *
      repeat' ((conv => whnf); first | refine Jb ?_ | refine Je ?_ | refine Jf ?_ | refine Jy o0 ?_)
      refine ⟨⟨Nat × Int, fun (e, I) => ⟨[(1, int .i64 n), (2, .v (.c (.loc 0 0))), (4, .v (.c (.loc 1 0))), (5, .v (.c (.loc 2 0))), (6, int .i64 t), (7, int .i64 (-(D : Int))), (8, .v (.c (.loc 3 0))), (9, int .i64 ((e : Int) + 1))], [(0, .st [ix N, ix k, ix Δ]), (1, .st rZs), (2, .st (rLs (sx S))), (3, .st (rLs (sx I)))], 4⟩, fun (e, I) => e ≤ 22 ∧ I = innZ N Δ t n D e, fun (e, _) => 22 - e, ⟨(0, 0), [], ⟨Nat.zero_le _, rfl⟩, ?_⟩, ?_⟩⟩
      · refine ⟨?_, ?_, rfl⟩
        · exact .cons (.refl _) (.cons (.refl _) (.cons (.refl _) (.cons (.refl _) (.cons (.refl _) (.cons (.int eD) (.cons (.refl _) (.cons (.refl _) .nil)))))))
        · exact .cons rfl (.refl _) (.cons rfl (.refl _) (.cons rfl (.refl _) (.cons rfl (.refl _) .nil)))
      rintro ⟨e, I⟩ ⟨he, hI⟩
      have lI : ln I.natAbs ≤ 2 := by rw [hI]; exact inn_ln hN1 hN he
      have ee : ((e : Int) + 1) * ((e : Int) + 1) = (((e + 1) * (e + 1) : Nat) : Int) := by push_cast; rfl
      have be : (e + 1) * (e + 1) ≤ 23 * 23 := Nat.mul_le_mul (by omega) (by omega)
      have pe : 0 < (e + 1) * (e + 1) := Nat.mul_pos (by omega) (by omega)
      have ni : innZ N Δ t n D (e + 1) = I + innT N Δ t n D (e + 1) := by rw [innZ, ← hI]
      clear o0
      by_cases hce : (e + 1) * (e + 1) ≤ D
      · have e22 : e + 1 < 23 := sq_lt (by omega)
        clear cf nx lT hI
        by_cases hz : D % ((e + 1) * (e + 1)) = 0
        · obtain ⟨r1, r2⟩ := neg_qr hz
          have ec : (((e + 1 : Nat) : Int)) = (e : Int) + 1 := by omega
          rw [ec] at r1 r2
          have q1 : 1 ≤ D / ((e + 1) * (e + 1)) := Nat.div_pos hce pe
          have q2 : D / ((e + 1) * (e + 1)) ≤ 512 := Nat.le_trans (Nat.div_le_self _ _) D2
          have eo : ((e : Int) + 1) * ((e : Int) + 1) ≠ 0 ∧ InK .i64 ((-(D : Int)).tdiv (((e : Int) + 1) * ((e : Int) + 1))) := ⟨by omega, by rw [r2]; show -9223372036854775808 ≤ -((D / ((e + 1) * (e + 1)) : Nat) : Int) ∧ -((D / ((e + 1) * (e + 1)) : Nat) : Int) ≤ 9223372036854775807; omega⟩
          have md := bmodQ_sp (-((D / ((e + 1) * (e + 1)) : Nat) : Int)) 4 (by omega) (by omega) (by omega) (by omega)
          have pm := posD_mod q1 q2
          by_cases hp : posD (D / ((e + 1) * (e + 1)))
          · have iT : innT N Δ t n D (e + 1) = (w6 (D / ((e + 1) * (e + 1))) : Int) * locZ N (e + 1) Δ t n := by unfold innT; rw [if_pos ⟨hz, hp⟩]
            rw [iT] at ni
            have lb := locZ_bd (e := e + 1) (Δ := Δ) (t := t) (n := n) hN1 hN
            have w6b := w6_le hp.2.1
            have wk := rWeighted_sp _ hp q2
            have ls := rroots_sp N k (e + 1) n Δ t hN1 hN d1 d2 z h4 dv n2 (by omega) (by omega) (by omega)
            have pm2 := pm.2 hp
            clear iT hp hz pm
            generalize locZ N (e + 1) Δ t n = L at *
            generalize D / ((e + 1) * (e + 1)) = Q at *
            generalize w6 Q = W at *
            have oL := bQ_sp L (by omega) (by omega)
            have bW := abs_mul (a := (W : Int)) (b := L) (x := 7992) (y := 48000) (by omega) lb
            have m1 := Mul2_sp (sx W) ((L : Int) : Rat) ((sx_QB (k := 2) (ln_two (by omega)) (by omega)).mono (by omega)) ((QB.i64 (by omega) (by omega)).mono (by omega))
            rw [sx_mulr] at m1
            have a1 := Add2_sp (sx I) (sx ((W : Int) * L)) ((sx_QB (k := 2) lI (by omega)).mono (by omega)) ((sx_QB (k := 2) (ln_two (by omega)) (by omega)).mono (by omega))
            rw [sx_add] at a1
            clear lS lI tt tp lb w6b bW
            repeat' ((conv => whnf); first | (refine Ob.mk eo ?_) | refine Ja ?_ | refine Jb ?_ | refine Je ?_ | refine Ji ?_ | refine Jj ?_ | refine Jk rfl ?_ | refine Sp.call (md) (.cons (.int r2) (.cons (.refl _) .nil)) rfl (AvLe.refl _) ?_ | refine Sp.call (wk) (.cons (.int r2) .nil) rfl (AvLe.refl _) ?_ | refine Jy ls ?_ | refine Jy oL ?_ | refine Jy m1 ?_ | refine Jy a1 ?_)
            exact ⟨(e + 1, I + (W : Int) * L), [], ⟨by omega, ni.symm⟩, by show 22 - (e + 1) < 22 - e; omega, Ent.g⟩
          · have iT : innT N Δ t n D (e + 1) = 0 := by unfold innT; rw [if_neg fun h => hp h.2]
            rw [iT, Int.add_zero] at ni
            have pm2 := mt pm.1 hp
            clear iT hp hz lS lI tt tp pm
            generalize D / ((e + 1) * (e + 1)) = Q at *
            repeat' ((conv => whnf); first | (refine Ob.mk eo ?_) | refine Ja ?_ | refine Jb ?_ | refine Je ?_ | refine Jf ?_ | refine Sp.call (md) (.cons (.int r2) (.cons (.refl _) .nil)) rfl (AvLe.refl _) ?_)
            exact ⟨(e + 1, I), [], ⟨by omega, ni.symm⟩, by show 22 - (e + 1) < 22 - e; omega, Ent.g⟩
        · have iT : innT N Δ t n D (e + 1) = 0 := by unfold innT; rw [if_neg fun h => hz h.1]
          rw [iT, Int.add_zero] at ni
          have r1 := neg_rn hz
          have ec : (((e + 1 : Nat) : Int)) = (e : Int) + 1 := by omega
          rw [ec] at r1
          clear iT hz lS lI tt tp
          repeat' ((conv => whnf); first | refine Ja ?_ | refine Jb ?_ | refine Je ?_ | refine Jf ?_)
          exact ⟨(e + 1, I), [], ⟨by omega, ni.symm⟩, by show 22 - (e + 1) < 22 - e; omega, Ent.g⟩
      · have hE : innZ N Δ t n D 22 = I := by
          have := innZ_end (N := N) (Δ := Δ) (t := t) (n := n) (D := D) (m := e) D1 (by omega) (22 - e)
          rw [show e + (22 - e) = 22 by omega] at this
          rw [this, hI]
        rw [hE] at nx lT
        clear hE hI ni
        have m1 := Mul2_sp ((P : Int) : Rat) (sx I) ((QB.int lp (by omega)).mono (by omega)) ((sx_QB (k := 2) lI (by omega)).mono (by omega))
        rw [sx_mul] at m1
        have a1 := Add2_sp (sx S) (sx (P * I)) ((sx_QB (k := 7) lS (by omega)).mono (by omega)) ((sx_QB (k := 7) lT (by omega)).mono (by omega))
        rw [sx_add] at a1
        clear lS lI tt tp lT lp
        repeat' ((conv => whnf); first | refine Jb ?_ | refine Jf ?_ | refine Ji ?_ | refine Jj ?_ | refine Jk rfl ?_ | refine Sp.call (cf) (.cons (.refl _) (.cons (.refl _) (.cons (.int ek) .nil))) rfl (AvLe.refl _) ?_ | refine Jy m1 ?_ | refine Jy a1 ?_)
        exact ⟨(m + 1, t + 1, S + P * I), [], ⟨by omega, by omega, nx.symm⟩, by show 4 * n + 1 - (m + 1) < 4 * n + 1 - m; omega, Ent.g⟩
    · have e0 : ellT N k Δ n t = 0 := by unfold ellT; rw [if_neg hd]
      rw [e0, Int.add_zero] at nx
      repeat' ((conv => whnf); first | refine Jb ?_ | refine Je ?_)
      exact ⟨(m + 1, t + 1, S), [], ⟨by omega, by omega, nx.symm⟩, by show 4 * n + 1 - (m + 1) < 4 * n + 1 - m; omega, Ent.g⟩
  · obtain rfl : m = 4 * n + 1 := by omega
    have : S = T := by rw [hT, hS, ellR_all n1]
    subst this
    clear hT hS o0
    repeat' ((conv => whnf); first | refine Jb ?_ | refine Jf ?_ | refine Ji ?_ | refine Jj ?_ | refine Jk rfl ?_ | refine Jy hf ?_ | refine Jy hm ?_)
    refine ⟨⟨_, _, rfl, rfl, ?_⟩⟩
    exact AvLe.refl _
end Go.Proofs.YtdjfndfkjbjcpaaGreatDoor

/- The reference's trace formula in letters: Divisors, Phi, Hyperbolic. -/
namespace HP
def dvU (n d : Nat) : List Nat := (List.range d).filter (isDv n)
theorem dvU_one (n : Nat) : dvU n 1 = [] := by
  unfold dvU isDv
  simp
theorem dvU_yes {n d : Nat} (hd : 0 < d) (h : d ∣ n) : dvU n (d + 1) = dvU n d ++ [d] := by
  unfold dvU
  rw [List.range_succ, List.filter_append]
  have : isDv n d = true := isDv_iff.2 ⟨hd, h⟩
  simp [this]
theorem dvU_no {n d : Nat} (h : ¬ d ∣ n) : dvU n (d + 1) = dvU n d := by
  unfold dvU
  rw [List.range_succ, List.filter_append]
  have : isDv n d = false := by
    cases e : isDv n d with
    | false => rfl
    | true => exact absurd (isDv_iff.1 e).2 h
  simp [this]
structure RowU (L : List Nat) (m : Nat) (H : Nat → Nat) : Prop where
  l : m = L.length
  z : ∀ i x, L[i]? = some x → H i = x
theorem RowU.snoc {L : List Nat} {m d : Nat} {H : Nat → Nat} (h : RowU L m H) : RowU (L ++ [d]) (m + 1) (fun j => if j < m then H j else d) := by
  refine ⟨by rw [List.length_append, h.l]; rfl, fun i x hx => ?_⟩
  show (if i < m then H i else d) = x
  by_cases hi : i < m
  · rw [if_pos hi]
    rw [List.getElem?_append_left (by rw [← h.l]; exact hi)] at hx
    exact h.z i x hx
  · rw [if_neg hi]
    rw [List.getElem?_append_right (by rw [← h.l]; omega), ← h.l] at hx
    have : i - m = 0 := by
      rcases Nat.eq_zero_or_pos (i - m) with e | e
      · exact e
      · rw [List.getElem?_eq_none (by simp; omega)] at hx
        cases hx
    rw [this] at hx
    simpa using hx
theorem RowU.dv {n m : Nat} {H : Nat → Nat} (h : RowU (dvU n (n + 1)) m H) : m = (dvs n).length ∧ ∀ i, i < m → H i = dvG n i := by
  have e : dvU n (n + 1) = dvs n := rfl
  rw [e] at h
  refine ⟨h.l, fun i hi => ?_⟩
  have := List.getElem?_eq_getElem (l := dvs n) (i := i) (by rw [← h.l]; exact hi)
  rw [h.z i _ this, dvG_z i _ this]
def cntV (q : Nat) : Nat → Nat
  | 0 => 0
  | m + 1 => cntV q m + bif Nat.beq (Nat.gcd (m + 1) q) 1 then 1 else 0
theorem cntV_chk : allB 121 (fun n => Nat.beq n 0 || decide ((cntV n n : Int) = prodC phiF n)) = true := by decide +kernel
theorem cntV_phi {g : Nat} (h1 : 1 ≤ g) (h2 : g ≤ 120) : ((cntV g g : Nat) : Int) = phi g := by
  have c := allB_at cntV_chk (show g < 121 by omega)
  rw [beq_f (show g ≠ 0 by omega), Bool.false_or] at c
  rw [of_decide_eq_true c, phi_C h1 h2]
def hyP (N n d c y : Nat) : Prop := Nat.gcd y N = 1 ∧ (c : Int) ∣ (y : Int) - (d : Int) ∧ ((N / c : Nat) : Int) ∣ (y : Int) - ((n / d : Nat) : Int)
theorem hy_ex {N n d c : Nat} {Δ : Int} (hN : 1 ≤ N) (h2 : N ≤ 120) (hn : Nat.gcd n N = 1) (hd : d ∣ n) (hc : c ∣ N) (hC : hinC N Δ n d c) : ∃ x, 1 ≤ x ∧ x ≤ N ∧ hyP N n d c x := by
  obtain ⟨R, M, ok⟩ := yy_ok hN h2 hc hC.2
  obtain ⟨r1, r2, r3⟩ := redN_spec (N := N) (y := yyZ N n d c) hN
  have e := mod_dvd_sub r3
  have p1 : (c : Int) ∣ (redN N (yyZ N n d c) : Int) - (d : Int) := by
    have := Int.dvd_add (Int.dvd_trans (Int.ofNat_dvd.2 hc) e) ok.yc
    rwa [show (redN N (yyZ N n d c) : Int) - (yyZ N n d c : Int) + ((yyZ N n d c : Int) - (d : Int)) = (redN N (yyZ N n d c) : Int) - (d : Int) by omega] at this
  have p2 : ((N / c : Nat) : Int) ∣ (redN N (yyZ N n d c) : Int) - ((n / d : Nat) : Int) := by
    have := Int.dvd_add (Int.dvd_trans (Int.ofNat_dvd.2 (Nat.div_dvd_of_dvd hc)) e) ok.ym
    rwa [show (redN N (yyZ N n d c) : Int) - (yyZ N n d c : Int) + ((yyZ N n d c : Int) - ((n / d : Nat) : Int)) = (redN N (yyZ N n d c) : Int) - ((n / d : Nat) : Int) by omega] at this
  exact ⟨_, r1, r2, unit_y hn hd hc p1 p2, p1, p2⟩
theorem lev_qr {N g : Nat} {Δ : Int} : ((N : Int).tdiv Δ).tmod g = 0 ↔ N / Δ.natAbs % g = 0 := by
  rw [tmod_dvd]
  have e : ((N : Int).tdiv Δ).natAbs = N / Δ.natAbs := by rw [Int.natAbs_tdiv]; rfl
  rw [Int.ofNat_dvd_left, e]
  exact Nat.dvd_iff_mod_eq_zero ..
theorem tdivOz {x : Nat} {y : Int} (hy : y ≠ 0) (hx : x ≤ 1000000) : y ≠ 0 ∧ Go.VG.InK .i64 ((x : Int).tdiv y) := by
  refine ⟨hy, ?_⟩
  have e : ((x : Int).tdiv y).natAbs = x / y.natAbs := by rw [Int.natAbs_tdiv]; rfl
  have := Nat.div_le_self x y.natAbs
  generalize (x : Int).tdiv y = q at *
  show -9223372036854775808 ≤ q ∧ q ≤ 9223372036854775807
  omega
end HP
namespace Go.Proofs.YtdjfndfkjbjcpaaGreatDoor
open Go Go.RowKit Go.VG HP
set_option maxHeartbeats 4000000 in
theorem rDivz_sp (n : Nat) (hn0 : 1 ≤ n) (hn : n ≤ 128) : Sp CX 26 [int .i64 n] (dvA n (dvs n).length) := by
  obtain ⟨L, eL⟩ : ∃ L, L = (dvs n).length := ⟨_, rfl⟩
  rw [← eL]
  refine fn_sp (C := CX) [] [0] tysX_ok mixed Tryz.func26 rfl (by kernel_rfl) Tryz.ntmps26 rfl rfl ?_
  repeat' ((conv => whnf); first | refine Ja ?_)
  refine ⟨⟨Nat × Nat × (Nat → Nat), fun (d, m, H) => ⟨[(0, int .i64 n), (3, .v (.c (.row 0))), (4, int .i64 d)], [(0, .rw 1 3 false Nat (fun z _ => ix z) H m)], 1⟩, fun (d, m, H) => 1 ≤ d ∧ d ≤ n + 1 ∧ m ≤ d ∧ RowU (dvU n d) m H, fun (d, _, _) => n + 1 - d, ⟨(1, 0, fun _ => 0), [.n 3 0 1 3], ⟨by omega, by omega, by omega, ⟨by rw [dvU_one]; rfl, fun i x h => by rw [dvU_one] at h; simp at h⟩⟩, Ent.g⟩, ?_⟩⟩
  rintro ⟨d, m, H⟩ ⟨d1, d2, m1, hL⟩
  by_cases hd : d ≤ n
  · have et : (n : Int).tmod d = ((n % d : Nat) : Int) := (Int.ofNat_tmod n d).symm
    by_cases hv : d ∣ n
    · have e0 : n % d = 0 := Nat.mod_eq_zero_of_dvd hv
      have hL2 := hL.snoc (d := d)
      rw [← dvU_yes d1 hv] at hL2
      clear hL eL
      repeat' ((conv => whnf); first | refine Ja ?_ | refine Je ?_)
      refine ⟨⟨fun _ => d, fun i j hi hj => ?_, fun _ _ _ _ => rfl, ?_⟩⟩
      · obtain rfl : i = 0 := by omega
        obtain rfl : j = 0 := by omega
        exact .refl _
      repeat' ((conv => whnf); first | refine Jb ?_)
      exact ⟨(d + 1, m + 1, _), [.s 0 1], ⟨by omega, by omega, by omega, hL2⟩, by show n + 1 - (d + 1) < n + 1 - d; omega, Ent.g⟩
    · have e0 : n % d ≠ 0 := fun h => hv (Nat.dvd_of_mod_eq_zero h)
      have hL2 := hL
      rw [← dvU_no hv] at hL2
      clear hL eL
      repeat' ((conv => whnf); first | refine Ja ?_ | refine Jb ?_ | refine Je ?_ | refine Jf ?_)
      exact ⟨(d + 1, m, H), [], ⟨by omega, by omega, by omega, hL2⟩, by show n + 1 - (d + 1) < n + 1 - d; omega, Ent.g⟩
  · obtain rfl : d = n + 1 := by omega
    obtain ⟨e1, e2⟩ := hL.dv
    rw [← eL] at e1
    subst e1
    clear hL
    repeat' ((conv => whnf); first | refine Jf ?_)
    refine ⟨⟨_, _, rfl, rfl, ?_⟩⟩
    exact .leaf (.sl fun i j hi _ => by rw [e2 i hi]; exact .refl _)
theorem rphiz_sp (n : Nat) (hn : n ≤ 1000) : Sp CX 62 [int .i64 n] (int .i64 (cntV n n : Nat)) := by
  obtain ⟨t, ht⟩ : ∃ t, t = cntV n n := ⟨_, rfl⟩
  rw [← ht]
  have HT := Lib.hid ht
  clear ht
  have hle : ∀ m, cntV n m ≤ m := fun m => by
    induction m with
    | zero => exact Nat.le_refl _
    | succ m ih => rw [cntV]; cases Nat.beq (Nat.gcd (m + 1) n) 1 <;> simp <;> omega
  refine fn_sp (C := CX) [] [] tysX_ok mixed Tryz.func62 rfl (by kernel_rfl) Tryz.ntmps62 rfl rfl ?_
  repeat' ((conv => whnf); first | refine Ja ?_)
  refine ⟨⟨Nat × Nat, fun (u, k) => ⟨[(0, int .i64 n), (3, int .i64 k), (4, int .i64 (u + 1 : Nat))], [], 0⟩, fun (u, k) => u ≤ n ∧ Hid (k = cntV n u), fun (u, _) => n - u, ⟨(0, 0), [], ⟨Nat.zero_le _, Lib.hid rfl⟩, Ent.g⟩, ?_⟩⟩
  rintro ⟨u, k⟩ ⟨k1, k2⟩
  have hk := hle u
  rw [← k2.out] at hk
  by_cases hu : u < n
  · have s := gcd18Z ((u + 1 : Nat) : Int) (n : Int) (by omega) (by omega)
    rw [Int.gcd_natCast_natCast] at s
    by_cases hg : Nat.gcd (u + 1) n = 1
    · have hn2 : Hid (k + 1 = cntV n (u + 1)) := Lib.hid (by rw [cntV, hg, ← k2.out]; rfl)
      rw [hg] at s
      repeat' ((conv => whnf); first | refine Jb ?_ | refine Je ?_ | refine Jy s ?_)
      exact ⟨(u + 1, k + 1), [], ⟨hu, hn2⟩, by show n - (u + 1) < n - u; omega, Ent.g⟩
    · have hn2 : Hid (k = cntV n (u + 1)) := Lib.hid (by rw [cntV, beq_f hg, ← k2.out]; rfl)
      generalize Nat.gcd (u + 1) n = g at *
      repeat' ((conv => whnf); first | refine Jb ?_ | refine Je ?_ | refine Jf ?_ | refine Jy s ?_)
      exact ⟨(u + 1, k), [], ⟨hu, hn2⟩, by show n - (u + 1) < n - u; omega, Ent.g⟩
  · obtain rfl : u = n := by omega
    have ht : t = k := HT.out.trans k2.out.symm
    subst ht
    repeat' ((conv => whnf); first | refine Jf ?_)
    refine ⟨⟨_, _, rfl, rfl, ?_⟩⟩
    exact AvLe.refl _
set_option maxHeartbeats 16000000 in
set_option maxRecDepth 20000 in
theorem rHyper_sp (N k n : Nat) (Δ : Int) (hN1 : 1 ≤ N) (hN : N ≤ 120) (hk1 : 2 ≤ k) (hk : k ≤ 24) (d1 : -120 ≤ Δ) (d2 : Δ ≤ 120) (dz : Δ ≠ 0) (h4 : Δ % 4 = 0 ∨ Δ % 4 = 1) (dv : Δ.natAbs ∣ N) (n1 : 1 ≤ n) (n2 : n ≤ 128) (hg : Nat.gcd n N = 1) : Sp CX 24 [specA N k Δ, int .i64 n] (qA (tw (6 * hypZ N k Δ n (dvs n).length))) := by
  have o0 := bQ_sp 0 (by omega) (by omega)
  have ds := rDivz_sp n n1 n2
  have cs := rDivz_sp N hN1 (by omega)
  have hln := @hypZ_ln N k n Δ hN1 hN hk n2
  have hf := FracQ_sp 1 2 (by omega) (by omega) (by omega) (by omega)
  have hh := Mul2_sp ((hypZ N k Δ n (dvs n).length : Int) : Rat) (Rat.divInt 1 2) ((QB.int (hln (Nat.le_refl _)).1 (by omega)).mono (by omega)) ((QB.divInt (k := 2) (d := 2) (by omega) (by decide) (by decide)).mono (by omega))
  have eh : ((hypZ N k Δ n (dvs n).length : Int) : Rat) * Rat.divInt 1 2 = tw (6 * hypZ N k Δ n (dvs n).length) := by
    rw [← int_half, divInt_div]
    grind
  rw [eh] at hh
  have lD := dvs_len' n
  have lC := dvs_len' N
  have atD : ∀ i, i < (dvs n).length → 1 ≤ dvG n i ∧ dvG n i ∣ n ∧ dvG n i ≤ n := fun i hi => dvG_at n1 hi
  have atC : ∀ i, i < (dvs N).length → 1 ≤ dvG N i ∧ dvG N i ∣ N ∧ dvG N i ≤ N := fun i hi => dvG_at hN1 hi
  have hinB : ∀ d m, m ≤ (dvs N).length → (hinZ N Δ n d m).natAbs ≤ 14520 := fun d m hm => hinZ_bd hN1 hN hm
  have hiT : ∀ d m, hinZ N Δ n d (m + 1) = hinZ N Δ n d m + hinT N Δ n d (dvG N m) := fun _ _ => rfl
  have hyT : ∀ m, hypZ N k Δ n (m + 1) = hypZ N k Δ n m + hypT N k Δ n (dvG n m) := fun _ => rfl
  have hyE : ∀ d, hypT N k Δ n d = ((min d (n / d) : Nat) : Int) ^ (k - 1) * hinZ N Δ n d (dvs N).length := fun _ => rfl
  have hi0 : ∀ d, hinZ N Δ n d 0 = 0 := fun _ => rfl
  have hy0 : hypZ N k Δ n 0 = 0 := rfl
  clear eh
  generalize (dvs n).length = LD at *
  generalize (dvs N).length = LC at *
  obtain ⟨T, hT⟩ : ∃ T, T = hypZ N k Δ n LD := ⟨_, rfl⟩
  rw [← hT] at hh ⊢
  refine fn_sp (C := CX) [] [] tysX_ok mixed Tryz.func24 rfl (by kernel_rfl) Tryz.ntmps24 rfl rfl ?_
  repeat' ((conv => whnf); first | refine Ji ?_ | refine Jj ?_ | refine Jk rfl ?_ | refine Jy o0 ?_ | refine Jy ds ?_ | refine Jy cs ?_)
  refine ⟨⟨Nat × Int, fun (i, S) => ⟨[(1, int .i64 n), (2, .v (.c (.loc 0 0))), (4, .v (.c (.loc 1 0))), (5, .v (.c (.loc 2 0))), (6, dvA n LD), (7, dvA N LC), (8, int .i64 i)], [(0, .st [ix N, ix k, ix Δ]), (1, .st rZs), (2, .st (rLs ((S : Int) : Rat)))], 3⟩, fun (i, S) => i ≤ LD ∧ S = hypZ N k Δ n i, fun (i, _) => LD - i, ⟨(0, 0), [], ⟨Nat.zero_le _, hy0.symm⟩, Ent.g⟩, ?_⟩⟩
  rintro ⟨i, S⟩ ⟨hi, hS⟩
  clear ds cs
  by_cases hc : i < LD
  · obtain ⟨x1, x2, x3⟩ := atD i hc
    have nx := hyT i
    rw [← hS, hyE] at nx
    have lS := (hln hi).1
    rw [← hS] at lS
    have lS2 := (hln (m := i + 1) hc).1
    rw [hyT i, ← hS, hyE] at lS2
    clear hh hf hT hS hyT hyE hy0 atD o0
    obtain ⟨d, hd⟩ : ∃ d, d = dvG n i := ⟨_, rfl⟩
    rw [← hd] at x1 x2 x3 nx lS2
    have edo := tdivOb (x := n) x1 (by omega)
    obtain ⟨o, ho⟩ : ∃ o, o = n / d := ⟨_, rfl⟩
    have eo : (n : Int).tdiv d = (o : Int) := by rw [ho]; exact (Int.ofNat_tdiv n _).symm
    have od : o ≤ n := by rw [ho]; exact Nat.div_le_self n d
    have eb : 0 ≤ (n : Int).tdiv d ∧ (n : Int).tdiv d ≤ 128 := by rw [eo]; omega
    rw [← ho] at nx lS2
    repeat' ((conv => whnf); first | refine Je ?_ | refine Jg rfl ?_)
    refine ⟨⟨Nat × Int, fun (j, I) => ⟨[(1, int .i64 n), (2, .v (.c (.loc 0 0))), (4, .v (.c (.loc 1 0))), (5, .v (.c (.loc 2 0))), (6, dvA n LD), (7, dvA N LC), (8, int .i64 i), (9, int .i64 d), (10, int .i64 I), (11, int .i64 j)], [(0, .st [ix N, ix k, ix Δ]), (1, .st rZs), (2, .st (rLs ((S : Int) : Rat)))], 3⟩, fun (j, I) => j ≤ LC ∧ I = hinZ N Δ n d j, fun (j, _) => LC - j, ⟨(0, 0), [], ⟨Nat.zero_le _, (hi0 d).symm⟩, ?_⟩, ?_⟩⟩
    · refine ⟨?_, ?_, rfl⟩
      · exact .cons (.refl _) (.cons (.refl _) (.cons (.refl _) (.cons (.refl _) (.cons (.refl _) (.cons (.refl _) (.cons (.refl _) (.cons (.int (by rw [hd])) (.cons (.refl _) (.cons (.refl _) .nil)))))))))
      · exact .cons rfl (.refl _) (.cons rfl (.refl _) (.cons rfl (.refl _) .nil))
    rintro ⟨j, I⟩ ⟨hj, hI⟩
    have bI : I.natAbs ≤ 14520 := by rw [hI]; exact hinB d j hj
    clear hd
    by_cases hcj : j < LC
    · obtain ⟨c1, c2, c3⟩ := atC j hcj
      have ni := hiT d j
      have bI2 := hinB d (j + 1) hcj
      rw [hiT d j, ← hI] at bI2
      rw [← hI] at ni
      clear hI hi0 hinB hiT atC lS lS2 nx
      obtain ⟨c, ec0⟩ : ∃ c, c = dvG N j := ⟨_, rfl⟩
      rw [← ec0] at c1 c2 c3 ni bI2
      have ec : (N : Int).tdiv (dvG N j) = ((N / c : Nat) : Int) := by rw [ec0]; exact (Int.ofNat_tdiv N (dvG N j)).symm
      have ec' : (N : Int).tdiv c = ((N / c : Nat) : Int) := (Int.ofNat_tdiv N c).symm
      have m1 : 1 ≤ N / c := Nat.div_pos (Nat.le_of_dvd (by omega) c2) (by omega)
      have m2 : N / c ≤ 120 := Nat.le_trans (Nat.div_le_self _ _) hN
      have eco := tdivOb (x := N) (y := dvG N j) (by omega) (by omega)
      have eco' := tdivOb (x := N) c1 (by omega)
      have gs := gcd18Z c (N / c : Nat) (by omega) (by omega)
      have g1 : 1 ≤ Nat.gcd c (N / c) := Nat.gcd_pos_of_pos_left _ c1
      have g2 : Nat.gcd c (N / c) ≤ 120 := Nat.le_trans (Nat.le_of_dvd c1 (Nat.gcd_dvd_left _ _)) (by omega)
      have eg : Int.gcd (c : Int) ((N / c : Nat) : Int) = Nat.gcd c (N / c) := rfl
      rw [eg] at gs
      have eDo := tdivOz (x := N) dz (by omega)
      have eq : ((n : Int).tdiv d - d).tmod (Nat.gcd c (N / c) : Nat) = 0 ↔ ((Nat.gcd c (N / c) : Nat) : Int) ∣ ((n / d : Nat) : Int) - (d : Int) := by rw [eo, ho]; exact tmod_dvd
      have eA := @lev_qr N (Nat.gcd c (N / c)) Δ
      have ea : ((dvG N j : Nat) : Int) = c := by rw [ec0]
      by_cases hA : ((N : Int).tdiv Δ).tmod (Nat.gcd c (N / c) : Nat) = 0
      · by_cases hB : ((n : Int).tdiv d - d).tmod (Nat.gcd c (N / c) : Nat) = 0
        · have hC : hinC N Δ n d c := ⟨eA.1 hA, eq.1 hB⟩
          have hin : hinT N Δ n d c = phi (Nat.gcd c (N / c)) * chiZ N Δ (yyZ N n d c) := by unfold hinT; rw [if_pos hC]
          rw [hin] at ni bI2
          have ph := rphiz_sp (Nat.gcd c (N / c)) (by omega)
          rw [cntV_phi g1 g2] at ph
          have p0 := phi_pos g1
          have p1 := phi_le g1
          have hchi : ∀ y : Nat, 1 ≤ y → hyP N n d c y → chiZ N Δ (yyZ N n d c) = jac Δ y := fun y y1 hy => hin_chi hN1 hN dz h4 dv hg x2 c2 hC y1 hy.2.1 hy.2.2
          have hex := hy_ex hN1 hN hg x2 c2 hC
          clear hin hC eA eq
          generalize hgg : Nat.gcd c (N / c) = g at *
          generalize hP : phi g = P at *
          generalize hX : chiZ N Δ (yyZ N n d c) = X at *
          repeat' ((conv => whnf); first | (refine Ob.mk edo ?_) | (refine Ob.mk eDo ?_) | (refine Ob.mk eco ?_) | refine Ja ?_ | refine Jb ?_ | refine Je ?_ | refine Jf ?_ | refine Jg rfl ?_ | refine Sp.call (gs) (.cons (.int ea) (.cons (.int ec) .nil)) rfl (AvLe.refl _) ?_)
          refine ⟨⟨Nat, fun y => ⟨[(1, int .i64 n), (2, .v (.c (.loc 0 0))), (4, .v (.c (.loc 1 0))), (5, .v (.c (.loc 2 0))), (6, dvA n LD), (7, dvA N LC), (8, int .i64 i), (9, int .i64 d), (10, int .i64 I), (11, int .i64 j), (12, int .i64 c), (13, int .i64 g), (14, int .i64 y)], [(0, .st [ix N, ix k, ix Δ]), (1, .st rZs), (2, .st (rLs ((S : Int) : Rat)))], 3⟩, fun y => 1 ≤ y ∧ y ≤ N + 1 ∧ ∀ x, 1 ≤ x → x < y → ¬ hyP N n d c x, fun y => N + 1 - y, ⟨1, [], ⟨by omega, by omega, fun x h1 h2 => by omega⟩, ?_⟩, ?_⟩⟩
          · refine ⟨?_, ?_, rfl⟩
            · exact .cons (.refl _) (.cons (.refl _) (.cons (.refl _) (.cons (.refl _) (.cons (.refl _) (.cons (.refl _) (.cons (.refl _) (.cons (.refl _) (.cons (.refl _) (.cons (.refl _) (.cons (.int ea) (.cons (.refl _) (.cons (.refl _) .nil))))))))))))
            · exact .cons rfl (.refl _) (.cons rfl (.refl _) (.cons rfl (.refl _) .nil))
          rintro y ⟨y1, y2, hno⟩
          clear gs ec eco ea ec0 eDo hgg
          by_cases hy : y ≤ N
          · have gy := gcd18Z (y : Int) N (by omega) (by omega)
            have egy : Int.gcd (y : Int) (N : Int) = Nat.gcd y N := rfl
            rw [egy] at gy
            have step : ¬ hyP N n d c y → ∀ x, 1 ≤ x → x < y + 1 → ¬ hyP N n d c x := fun h x h1 h2 => by
              by_cases e : x = y
              · subst e; exact h
              · exact hno x h1 (by omega)
            clear hex hno egy
            by_cases hu : Nat.gcd y N = 1
            · rw [hu] at gy
              by_cases hA2 : ((y : Int) - d).tmod c = 0
              · by_cases hB2 : ((y : Int) - (n : Int).tdiv d).tmod ((N : Int).tdiv c) = 0
                · have hp : hyP N n d c y := ⟨hu, tmod_dvd.1 hA2, by rw [eo, ec', ho] at hB2; exact tmod_dvd.1 hB2⟩
                  have ex := hchi y y1 hp
                  have vs := rvalue_sp N k y Δ hN1 hN d1 d2 dz h4 dv y1 (by omega)
                  rw [← ex] at vs
                  have tr := jac_tri Δ y y1
                  rw [← ex] at tr
                  have xb : -1 ≤ X ∧ X ≤ 1 := by
                    clear ni bI2
                    rcases tr with e | e | e <;> rw [e] <;> decide
                  clear tr
                  have pc := mulbz (x := P) (y := X) (X := 120) (Y := 1) (by omega) (by omega)
                  clear hchi step ex hp
                  repeat' ((conv => whnf); first | (refine Ob.mk eco' ?_) | (refine Ob.mk edo ?_) | refine Ja ?_ | refine Jb ?_ | refine Je ?_ | refine Ji ?_ | refine Jj ?_ | refine Jk rfl ?_ | refine Jy gy ?_ | refine Jy ph ?_ | refine Jy vs ?_)
                  exact ⟨(j + 1, I + P * X), [], ⟨by omega, ni.symm⟩, by show LC - (j + 1) < LC - j; omega, Ent.g⟩
                · have hn' : ¬ hyP N n d c y := fun h => hB2 (by rw [eo, ec', ho]; exact tmod_dvd.2 h.2.2)
                  have st := step hn'
                  clear hchi step
                  repeat' ((conv => whnf); first | (refine Ob.mk eco' ?_) | (refine Ob.mk edo ?_) | refine Ja ?_ | refine Jb ?_ | refine Je ?_ | refine Jf ?_ | refine Ji ?_ | refine Jj ?_ | refine Jk rfl ?_ | refine Jy gy ?_)
                  exact ⟨y + 1, [], ⟨by omega, by omega, st⟩, by show N + 1 - (y + 1) < N + 1 - y; omega, Ent.g⟩
              · have hn' : ¬ hyP N n d c y := fun h => hA2 (tmod_dvd.2 h.2.1)
                have st := step hn'
                clear hchi step
                repeat' ((conv => whnf); first | refine Ja ?_ | refine Jb ?_ | refine Je ?_ | refine Jf ?_ | refine Ji ?_ | refine Jj ?_ | refine Jk rfl ?_ | refine Jy gy ?_)
                exact ⟨y + 1, [], ⟨by omega, by omega, st⟩, by show N + 1 - (y + 1) < N + 1 - y; omega, Ent.g⟩
            · have st := step fun h => hu h.1
              clear hchi step
              generalize Nat.gcd y N = G at *
              repeat' ((conv => whnf); first | refine Jb ?_ | refine Je ?_ | refine Jf ?_ | refine Ji ?_ | refine Jj ?_ | refine Jk rfl ?_ | refine Jy gy ?_)
              exact ⟨y + 1, [], ⟨by omega, by omega, st⟩, by show N + 1 - (y + 1) < N + 1 - y; omega, Ent.g⟩
          · exfalso
            obtain ⟨x, h1, h2, h3⟩ := hex
            exact hno x h1 (by omega) h3
        · have e0 : hinT N Δ n d c = 0 := by unfold hinT; rw [if_neg fun h => hB (eq.2 h.2)]
          rw [e0, Int.add_zero] at ni
          clear e0 eq eA bI2
          generalize Nat.gcd c (N / c) = g at *
          repeat' ((conv => whnf); first | (refine Ob.mk edo ?_) | (refine Ob.mk eDo ?_) | (refine Ob.mk eco ?_) | refine Ja ?_ | refine Jb ?_ | refine Je ?_ | refine Jf ?_ | refine Jg rfl ?_ | refine Sp.call (gs) (.cons (.int ea) (.cons (.int ec) .nil)) rfl (AvLe.refl _) ?_)
          exact ⟨(j + 1, I), [], ⟨by omega, ni.symm⟩, by show LC - (j + 1) < LC - j; omega, Ent.g⟩
      · have e0 : hinT N Δ n d c = 0 := by unfold hinT; rw [if_neg fun h => hA (eA.2 h.1)]
        rw [e0, Int.add_zero] at ni
        clear e0 eq eA bI2
        generalize Nat.gcd c (N / c) = g at *
        repeat' ((conv => whnf); first | (refine Ob.mk eDo ?_) | (refine Ob.mk eco ?_) | refine Ja ?_ | refine Jb ?_ | refine Je ?_ | refine Jg rfl ?_ | refine Sp.call (gs) (.cons (.int ea) (.cons (.int ec) .nil)) rfl (AvLe.refl _) ?_)
        exact ⟨(j + 1, I), [], ⟨by omega, ni.symm⟩, by show LC - (j + 1) < LC - j; omega, Ent.g⟩
    · obtain rfl : j = LC := by omega
      rw [← hI] at nx lS2
      clear hI hiT hi0 hinB atC
      have pw := rpower_sp ((min d o : Nat) : Int) (k - 1) (ln_of (k := 1) (by show _ < 4294967296; omega)) (by omega) (by omega) (by omega)
      have lX : ln (((min d o : Nat) : Int) ^ (k - 1)).natAbs ≤ 100 := by have := ln_pow (a := ((min d o : Nat) : Int)) (ln_of (k := 1) (by show _ < 4294967296; omega)) (k - 1); omega
      have emn : (if (n : Int).tdiv d < d then (n : Int).tdiv d else (d : Int)) = ((min d o : Nat) : Int) := by rw [eo]; split <;> omega
      generalize ((min d o : Nat) : Int) ^ (k - 1) = X at *
      have oI := bQ_sp I (by omega) (by omega)
      have ml := Mul2_sp ((X : Int) : Rat) ((I : Int) : Rat) ((QB.int lX (by omega)).mono (by omega)) ((QB.i64 (by omega) (by omega)).mono (by omega))
      rw [← Rat.intCast_mul] at ml
      have lXI : ln (X * I).natAbs ≤ 200 := by rw [Int.natAbs_mul]; have := ln_mul X.natAbs I.natAbs; have : ln I.natAbs ≤ 2 := ln_two (by omega); omega
      have ad := Add2_sp ((S : Int) : Rat) ((X * I : Int) : Rat) ((QB.int lS (by omega)).mono (by omega)) ((QB.int lXI (by omega)).mono (by omega))
      rw [← Rat.intCast_add] at ad
      clear lX lXI lS lS2
      repeat' ((conv => whnf); first | (refine Ob.mk edo ?_) | refine Jb ?_ | refine Jf ?_ | refine Ji ?_ | refine Jj ?_ | refine Jk rfl ?_ | refine Sp.call (pw) (.cons (.int emn) (.cons (.int (by omega)) .nil)) rfl (AvLe.refl _) ?_ | refine Jy oI ?_ | refine Jy ml ?_ | refine Jy ad ?_)
      exact ⟨(i + 1, S + X * I), [], ⟨by omega, nx.symm⟩, by show LD - (i + 1) < LD - i; omega, Ent.g⟩
  · obtain rfl : i = LD := by omega
    have : S = T := by rw [hT, hS]
    subst this
    clear hT hS o0
    repeat' ((conv => whnf); first | refine Jf ?_ | refine Ji ?_ | refine Jj ?_ | refine Jk rfl ?_ | refine Jy hf ?_ | refine Jy hh ?_)
    refine ⟨⟨_, _, rfl, rfl, ?_⟩⟩
    exact AvLe.refl _
end Go.Proofs.YtdjfndfkjbjcpaaGreatDoor

/- The reference's trace formula in letters: Parts; the statement TraceTerms. -/
namespace Go.Proofs.YtdjfndfkjbjcpaaGreatDoor
open Go Go.RowKit Go.VG HP
theorem rParts_bad (L K D n : Int) (h : trE L K D n ≠ 0) : Sp CX 7 [specA L K D, int .i64 n] (.tup [ptZ, .c (ix (trE L K D n))]) := by
  have e := rErr32_sp L K D n
  generalize trE L K D n = t at *
  refine fn_sp (C := CX) [] [] tysX_ok mixed Tryz.func7 rfl (by kernel_rfl) Tryz.ntmps7 rfl rfl ?_
  repeat' ((conv => whnf); first | refine Je ?_ | refine Jy e ?_)
  refine ⟨⟨_, _, rfl, rfl, ?_⟩⟩
  exact AvLe.refl _
set_option maxHeartbeats 8000000 in
theorem rParts_ok (N k n : Nat) (Δ : Int) (ok : DOk N k Δ) (n1 : 1 ≤ n) (n2 : n ≤ 128) (hg : Nat.gcd n N = 1) : Sp CX 7 [specA N k Δ, int .i64 n] (.tup [ptV (tw (mainN N k Δ n)) (tw (ellZ N k Δ n)) (tw (6 * hypZ N k Δ n (dvs n).length)) ((wtZ k Δ n : Int) : Rat), .c (ix 0)]) := by
  have s := rErr32_sp N k Δ n
  rw [trE_zero ok n1 n2 hg] at s
  have p1 := rMain_sp N k n Δ ok n1 n2 hg
  obtain ⟨hN1, hN, hk1, hk, d1, d2, dz, h4, _, dv, _, _⟩ := ok
  have p2 := rElliptic_sp N k n Δ hN1 hN hk1 hk d1 d2 dz h4 dv n1 n2
  have p3 := rHyper_sp N k n Δ hN1 hN hk1 hk d1 d2 dz h4 dv n1 n2 hg
  have o0 := bQ_sp 0 (by omega) (by omega)
  have ds := rDivz_sp n n1 n2
  have lD := dvs_len' n
  have atD : ∀ i, i < (dvs n).length → 1 ≤ dvG n i ∧ dvG n i ∣ n ∧ dvG n i ≤ n := fun i hi => dvG_at n1 hi
  have sb := @sigN_bd n n1 n2
  have s1 : ∀ m, sumJ (fun i => (dvG n i : Int)) (m + 1) = sumJ (fun i => (dvG n i : Int)) m + dvG n m := fun _ => rfl
  have s0 : sumJ (fun i => (dvG n i : Int)) 0 = 0 := rfl
  unfold wtZ sigN
  clear hg
  generalize tw (mainN N k Δ n) = q1 at *
  generalize tw (ellZ N k Δ n) = q2 at *
  generalize tw (6 * hypZ N k Δ n (dvs n).length) = q3 at *
  generalize (dvs n).length = LD at *
  by_cases h1 : k = 2
  · by_cases h2 : Δ = 1
    · rw [if_pos ⟨h1, h2⟩]
      refine fn_sp (C := CX) [] [] tysX_ok mixed Tryz.func7 rfl (by kernel_rfl) Tryz.ntmps7 rfl rfl ?_
      repeat' ((conv => whnf); first | refine Je ?_ | refine Jf ?_ | refine Ji ?_ | refine Jk rfl ?_ | refine Jl ?_ | refine Jo ?_ | refine Jp ?_ | refine Jq rfl ?_ | refine Jy s ?_ | refine Jy p1 ?_ | refine Jy p2 ?_ | refine Jy p3 ?_ | refine Jy o0 ?_ | refine Jy ds ?_)
      refine ⟨⟨Nat × Int, fun (i, S) => ⟨[(1, int .i64 n), (2, .v (.c (.loc 0 0))), (4, .v (.c (.loc 1 0))), (7, .v (.c (.loc 2 0))), (8, dvA n LD), (9, int .i64 i)], [(0, .st [ix N, ix k, ix Δ]), (1, .st (rZs ++ rZs ++ rZs ++ rZs)), (2, .st (rLs q1 ++ rLs q2 ++ rLs q3 ++ rLs ((S : Int) : Rat)))], 3⟩, fun (i, S) => i ≤ LD ∧ S = sumJ (fun i => (dvG n i : Int)) i, fun (i, _) => LD - i, ⟨(0, 0), [.s 2 13], ⟨Nat.zero_le _, s0.symm⟩, Ent.g⟩, ?_⟩⟩
      rintro ⟨i, S⟩ ⟨hi, hS⟩
      clear s p1 p2 p3 o0 ds
      by_cases hc : i < LD
      · have nx := s1 i
        rw [← hS] at nx
        have b := sb (m := i) hi
        rw [← hS] at b
        obtain ⟨x1, _, x3⟩ := atD i hc
        have od := bQ_sp (dvG n i : Nat) (by omega) (by omega)
        have ad := Add2_sp ((S : Int) : Rat) (((dvG n i : Nat) : Int) : Rat) ((QB.i64 (by omega) (by omega)).mono (by omega)) ((QB.i64 (by omega) (by omega)).mono (by omega))
        rw [← Rat.intCast_add] at ad
        clear sb s1 s0 hS atD
        repeat' ((conv => whnf); first | refine Jb ?_ | refine Je ?_ | refine Jg rfl ?_ | refine Ji ?_ | refine Jj ?_ | refine Jk rfl ?_ | refine Jy od ?_ | refine Jy ad ?_)
        exact ⟨(i + 1, S + dvG n i), [], ⟨by omega, nx.symm⟩, by show LD - (i + 1) < LD - i; omega, Ent.g⟩
      · obtain rfl : i = LD := by omega
        rw [← hS]
        clear hS sb s1 s0 atD
        repeat' ((conv => whnf); first | refine Jf ?_)
        refine ⟨⟨_, _, rfl, rfl, ?_⟩⟩
        exact AvLe.refl _
    · rw [if_neg fun h => h2 h.2]
      clear sb s1 s0 atD
      refine fn_sp (C := CX) [] [] tysX_ok mixed Tryz.func7 rfl (by kernel_rfl) Tryz.ntmps7 rfl rfl ?_
      repeat' ((conv => whnf); first | refine Je ?_ | refine Jf ?_ | refine Ji ?_ | refine Jk rfl ?_ | refine Jl ?_ | refine Jo ?_ | refine Jp ?_ | refine Jq rfl ?_ | refine Jy s ?_ | refine Jy p1 ?_ | refine Jy p2 ?_ | refine Jy p3 ?_ | refine Jy o0 ?_)
      refine ⟨⟨_, _, rfl, rfl, ?_⟩⟩
      exact AvLe.refl _
  · rw [if_neg fun h => h1 h.1]
    clear sb s1 s0 atD
    refine fn_sp (C := CX) [] [] tysX_ok mixed Tryz.func7 rfl (by kernel_rfl) Tryz.ntmps7 rfl rfl ?_
    repeat' ((conv => whnf); first | refine Jf ?_ | refine Ji ?_ | refine Jk rfl ?_ | refine Jl ?_ | refine Jo ?_ | refine Jp ?_ | refine Jq rfl ?_ | refine Jy s ?_ | refine Jy p1 ?_ | refine Jy p2 ?_ | refine Jy p3 ?_ | refine Jy o0 ?_)
    refine ⟨⟨_, _, rfl, rfl, ?_⟩⟩
    exact AvLe.refl _
theorem sameI32 : Sp CX 11 [.v (.agg iZs), .v (.agg iZs)] (bool true) := by
  have s := SameInt_sp 0 (by decide)
  exact spLe32 s (.cons (.agg (.cons (.bool rfl) (.cons .nil .nil))) (.cons (.agg (.cons (.bool rfl) (.cons .nil .nil))) .nil))
theorem sameQ32 : Sp CX 8 [.v (.agg rZs), .v (.agg rZs)] (bool true) := by
  have s := sameI32
  refine fn_sp (C := CX) [] [] tysX_ok mixed Tryz.func8 rfl (by kernel_rfl) Tryz.ntmps8 rfl rfl ?_
  repeat' ((conv => whnf); first | refine Je ?_ | refine Jy s ?_)
  refine ⟨⟨_, _, rfl, rfl, ?_⟩⟩
  exact AvLe.bool rfl
theorem tterms_core (L K D n : Int) (hn : ¬ (50 < n ∧ n ≤ 128)) (a b c d : Rat) (ha : QB 1000000 a) (hb : QB 1000000 b) (hc : QB 1000000 c) (hd : QB 1000000 d)
    (p : Sp CX 6 [specA L K D, int .i64 n] (.tup [ptV a b c d, .c (ix 0)])) (q : Sp CX 7 [specA L K D, int .i64 n] (.tup [ptV a b c d, .c (ix 0)])) : Sp CX 3 [specA L K D, int .i64 n] (bool true) := by
  have s0 := tawake_sp
  have e1 := SameRat_sp a ha
  have e2 := SameRat_sp b hb
  have e3 := SameRat_sp c hc
  have e4 := SameRat_sp d hd
  by_cases h : 50 < n
  · have h2 : ¬ n ≤ 128 := fun h3 => hn ⟨h, h3⟩
    have g : Sp CX 4 [specA L K D, int .i64 n] (bool false) := by
      refine fn_sp (C := CX) [] [] tysX_ok mixed Tryz.func4 rfl (by kernel_rfl) Tryz.ntmps4 rfl rfl ?_
      repeat' ((conv => whnf); first | refine Je ?_)
      refine ⟨⟨_, _, rfl, rfl, ?_⟩⟩
      exact AvLe.bool (decide_eq_false h2)
    refine fn_sp (C := CX) [] [] tysX_ok mixed Tryz.func3 rfl (by kernel_rfl) Tryz.ntmps3 rfl rfl ?_
    repeat' ((conv => whnf); first | refine Je ?_ | refine Jf ?_ | refine Jy g ?_ | refine Jy s0 ?_ | refine Jy p ?_ | refine Jy q ?_ | refine Jy e1 ?_ | refine Jy e2 ?_ | refine Jy e3 ?_ | refine Jy e4 ?_)
    refine ⟨⟨_, _, rfl, rfl, ?_⟩⟩
    exact AvLe.bool rfl
  · have g : Sp CX 4 [specA L K D, int .i64 n] (bool false) := by
      refine fn_sp (C := CX) [] [] tysX_ok mixed Tryz.func4 rfl (by kernel_rfl) Tryz.ntmps4 rfl rfl ?_
      repeat' ((conv => whnf); first | refine Jf ?_)
      refine ⟨⟨_, _, rfl, rfl, ?_⟩⟩
      exact AvLe.bool rfl
    refine fn_sp (C := CX) [] [] tysX_ok mixed Tryz.func3 rfl (by kernel_rfl) Tryz.ntmps3 rfl rfl ?_
    repeat' ((conv => whnf); first | refine Je ?_ | refine Jf ?_ | refine Jy g ?_ | refine Jy s0 ?_ | refine Jy p ?_ | refine Jy q ?_ | refine Jy e1 ?_ | refine Jy e2 ?_ | refine Jy e3 ?_ | refine Jy e4 ?_)
    refine ⟨⟨_, _, rfl, rfl, ?_⟩⟩
    exact AvLe.bool rfl
theorem law_tterms (L K D n : Int) : Sp CX 3 [specA L K D, int .i64 n] (bool true) := by
  have s0 := tawake_sp
  by_cases hb : 50 < n ∧ n ≤ 128
  · have g : Sp CX 4 [specA L K D, int .i64 n] (bool true) := by
      obtain ⟨h1, h2⟩ := hb
      refine fn_sp (C := CX) [] [] tysX_ok mixed Tryz.func4 rfl (by kernel_rfl) Tryz.ntmps4 rfl rfl ?_
      repeat' ((conv => whnf); first | refine Je ?_)
      refine ⟨⟨_, _, rfl, rfl, ?_⟩⟩
      exact AvLe.bool (decide_eq_true h2)
    refine fn_sp (C := CX) [] [] tysX_ok mixed Tryz.func3 rfl (by kernel_rfl) Tryz.ntmps3 rfl rfl ?_
    repeat' ((conv => whnf); first | refine Je ?_ | refine Jy g ?_ | refine Jy s0 ?_)
    refine ⟨⟨_, _, rfl, rfl, ?_⟩⟩
    exact AvLe.bool rfl
  · by_cases h : trE L K D n = 0
    · obtain ⟨N, k, m, rfl, rfl, rfl, ok, m1, m2, hg⟩ := trE_ok h
      have p := Parts_ok N k m D ok m1 m2 hg
      have q := rParts_ok N k m D ok m1 m2 hg
      obtain ⟨hN1, hN, hk1, hk, d1, d2, dz, _, _, _, _, _⟩ := ok
      have sb := sigN_bd m1 m2 (Nat.le_refl _)
      have lD := dvs_len' m
      have sb2 : 0 ≤ sigN m ∧ sigN m ≤ 128 * ((dvs m).length : Int) := sb
      have w1 : ln (wtZ k D m).natAbs ≤ 2 := by
        unfold wtZ
        split
        · exact ln64 (by omega) (by omega)
        · decide
      have w := QB.int (k := 2) w1 (by omega)
      have q1 := (tw_QB (k := 4) (mainN_ln (k := k) (Δ := D) hN1 hN hk m1 m2) (by omega))
      have q2 := (tw_QB (k := 7) (ell_ln (N := N) (k := k) (Δ := D) (n := m) hN1 hN hk (by omega) (by omega) (m := (2 * (m : Int) + 3).toNat) (by omega)) (by omega))
      have q3 := (tw_QB (k := 6) (hypZ_ln (Δ := D) hN1 hN hk m2 (Nat.le_refl _)).2 (by omega))
      exact tterms_core N k D m hb _ _ _ _ (q1.mono (by omega)) (q2.mono (by omega)) (q3.mono (by omega)) (w.mono (by omega)) p q
    · have p := Parts_bad L K D n h
      have q := rParts_bad L K D n h
      have e := sameQ32
      clear h
      generalize trE L K D n = t at *
      by_cases h : 50 < n
      · have h2 : ¬ n ≤ 128 := fun h3 => hb ⟨h, h3⟩
        have g : Sp CX 4 [specA L K D, int .i64 n] (bool false) := by
          refine fn_sp (C := CX) [] [] tysX_ok mixed Tryz.func4 rfl (by kernel_rfl) Tryz.ntmps4 rfl rfl ?_
          repeat' ((conv => whnf); first | refine Je ?_)
          refine ⟨⟨_, _, rfl, rfl, ?_⟩⟩
          exact AvLe.bool (decide_eq_false h2)
        refine fn_sp (C := CX) [] [] tysX_ok mixed Tryz.func3 rfl (by kernel_rfl) Tryz.ntmps3 rfl rfl ?_
        repeat' ((conv => whnf); first | refine Je ?_ | refine Jf ?_ | refine Jy g ?_ | refine Jy s0 ?_ | refine Jy p ?_ | refine Jy q ?_ | refine Jy e ?_)
        refine ⟨⟨_, _, rfl, rfl, ?_⟩⟩
        exact AvLe.bool rfl
      · have g : Sp CX 4 [specA L K D, int .i64 n] (bool false) := by
          refine fn_sp (C := CX) [] [] tysX_ok mixed Tryz.func4 rfl (by kernel_rfl) Tryz.ntmps4 rfl rfl ?_
          repeat' ((conv => whnf); first | refine Jf ?_)
          refine ⟨⟨_, _, rfl, rfl, ?_⟩⟩
          exact AvLe.bool rfl
        refine fn_sp (C := CX) [] [] tysX_ok mixed Tryz.func3 rfl (by kernel_rfl) Tryz.ntmps3 rfl rfl ?_
        repeat' ((conv => whnf); first | refine Je ?_ | refine Jf ?_ | refine Jy g ?_ | refine Jy s0 ?_ | refine Jy p ?_ | refine Jy q ?_ | refine Jy e ?_)
        refine ⟨⟨_, _, rfl, rfl, ?_⟩⟩
        exact AvLe.bool rfl
end Go.Proofs.YtdjfndfkjbjcpaaGreatDoor

