/- The walks of arith.modulus, PrimitiveRoot, tonelli and SqrtMod. -/
import Derived.Test.YtjmldlbiihaefaaDoorAriP
import Derived.Test.YtjmldlbiihaefaaDoorAriJ
import Derived.Test.YtjmldlbiihaefaaDoorNumS
namespace Go.Proofs.YtjmldlbiihaefaaDoor
open Go.RowKit HP

theorem modulus_range (p : Int) (w : World) (h : p < 2 ∨ 2147483647 < p) :
    Calls Tryd.prog 68 #[.int .i64 p] w fun x w' => x = .returned (.int .i64 2) ∧ w = w' := by
  by_cases h2 : p < 2
  · have d1 : decide (p < 2) = true := by rw [decide_eq_true_iff]; exact h2
    go_enter Tryd.func68, Tryd.ntmps68
    go_wp2
    go_ret
    exact ⟨rfl, rfl⟩
  · have d1 : decide (p < 2) = false := by rw [decide_eq_false_iff_not]; exact h2
    have d2 : decide (2147483647 < p) = true := by rw [decide_eq_true_iff]; omega
    go_enter Tryd.func68, Tryd.ntmps68
    go_wp2
    go_ret
    exact ⟨rfl, rfl⟩
theorem modulus_any (p : Nat) (b : Bool) (w : World) (h : 2 ≤ p) (h2 : p ≤ 2147483647) (hb : prmB p = b) :
    Calls Tryd.prog 68 #[.int .i64 p] w fun x w' => x = .returned (.int .i64 (if b then 0 else 8)) ∧ w = w' := by
  have d1 : decide ((p : Int) < 2) = false := by rw [decide_eq_false_iff_not]; omega
  have d2 : decide (2147483647 < (p : Int)) = false := by rw [decide_eq_false_iff_not]; omega
  have c := fun w => prime_any (p : Int) w (by omega)
  rw [Int.toNat_natCast, hb] at c
  have C := Lib.hid c
  clear c hb
  cases b
  all_goals
    go_enter Tryd.func68, Tryd.ntmps68
    go_wp2_with (go_at_call 65; refine (C.out _).mono ?_; rintro x w' ⟨rfl, rfl⟩)
    go_ret
    exact ⟨rfl, rfl⟩

theorem proot_err (p : Int) (e : Int) (w : World) (he : e ≠ 0) (h : ∀ w, Calls Tryd.prog 68 #[.int .i64 p] w fun x w' => x = .returned (.int .i64 e) ∧ w = w') :
    Calls Tryd.prog 39 #[.int .i64 p] w fun x w' => x = .returned (.tuple #[.int .i64 0, .int .i64 e]) ∧ w = w' := by
  have C := Lib.hid h
  have t : (e != 0) = true := by rw [bne_iff_ne]; exact he
  clear h he
  go_enter Tryd.func39, Tryd.ntmps39
  go_wp2_with (go_at_call 68; refine (C.out _).mono ?_; rintro x w' ⟨rfl, rfl⟩)
  go_ret2
  exact ⟨rfl, rfl⟩
theorem prime_order {p : Nat} (hp : Prm p) (hp2 : p ≤ 2147483647) {r : Nat} (h1 : 1 ≤ r) (h2 : r < p) : ∃ d : Nat, IsOrd r p d ∧ d ∣ p - 1 ∧ d ≤ 2147483647 := by
  obtain ⟨d, hd, hdv⟩ := unit_ord (a := r) (m := p) hp.pos (unit_prime hp h1 h2)
  rw [phi_prime hp, Int.toNat_natCast] at hdv
  have := hp.1
  have := Nat.le_of_dvd (by omega) hdv
  exact ⟨d, hd, hdv, by omega⟩
set_option maxHeartbeats 1000000 in
set_option maxRecDepth 100000 in
theorem proot_ok (p g : Nat) (w : World) (hp : Prm p) (hp2 : p ≤ 2147483647) (hg1 : 1 ≤ g) (hg2 : g < p) (hg : IsOrd g p (p - 1)) (hmin : ∀ r : Nat, 1 ≤ r → r < g → ¬ IsOrd r p (p - 1)) :
    Calls Tryd.prog 39 #[.int .i64 p] w fun x w' => x = .returned (.tuple #[.int .i64 g, .int .i64 0]) ∧ Below w.heap.size w w' := by
  have cm := fun w => modulus_any p true w hp.1 hp2 (prmB_of hp)
  have co : ∀ r d : Nat, 1 ≤ r → r < p → IsOrd r p d → d ∣ p - 1 → ∀ w, Calls Tryd.prog 67 #[.int .i64 r, .int .i64 p] w fun x w' => x = .returned (.int .i64 d) ∧ Below w.heap.size w w' := fun r d h1 h2 h3 h4 w =>
    order_any r p d w (by omega) (by omega) hp.pos hp2 h3 (by rw [phi_prime hp, Int.toNat_natCast]; exact h4)
  have hpo := fun r => prime_order (r := r) hp hp2
  have h2p := hp.1
  have CM := Lib.hid cm
  have CO := Lib.hid co
  have HPO := Lib.hid hpo
  have HG := Lib.hid hg
  have HMIN := Lib.hid hmin
  clear cm co hpo hg hmin hp
  go_enter Tryd.func39, Tryd.ntmps39
  go_wp2_with (go_at_call 68; refine (CM.out _).mono ?_; rintro x w' ⟨rfl, rfl⟩)
  go_loopw [5] (fun y wr => ∃ r : Nat, y = .int .i64 r ∧ 1 ≤ r ∧ r ≤ g ∧ Hid (Below w.heap.size w wr)) (fun y _ => g - (intOf y).toNat)
  case atStart => exact ⟨1, rfl, by omega, by omega, Below.refl _ _⟩
  case round =>
    obtain ⟨r, rfl, h1, h2, HB⟩ := hrel
    have hsz := HB.out.size
    obtain ⟨d, hd, hdv, hdb⟩ := HPO.out r h1 (by omega)
    have c := CO.out r d h1 (by omega) hd hdv
    by_cases hr : r = g
    · subst hr
      have e : d = p - 1 := hd.unique HG.out
      have t : ((d : Int) != (p : Int) - 1) = false := by
        rw [bne_eq_false_iff_eq]; omega
      have C := Lib.hid c
      clear c hd hdv e
      go_wp2_with (go_at_call 67; refine (C.out _).mono ?_; rintro x w' ⟨rfl, hb⟩)
      go_ret2
      exact ⟨rfl, HB.out.trans (hb.mono hsz)⟩
    · have e : d ≠ p - 1 := fun e => HMIN.out r h1 (by omega) (e ▸ hd)
      have t : ((d : Int) != (p : Int) - 1) = true := by
        rw [bne_iff_ne]; omega
      have C := Lib.hid c
      clear c hd hdv e
      go_wp2_with (go_at_call 67; refine (C.out _).mono ?_; rintro x w' ⟨rfl, hb⟩)
      have HB' := Lib.hid (HB.out.trans (hb.mono hsz))
      clear hb
      go_roundw
      case rel => exact ⟨r + 1, by go_num, by omega, by omega, HB'.out⟩
      case measure => simp [intOf]; omega

set_option maxHeartbeats 2000000 in
set_option maxRecDepth 100000 in
theorem tonelli_any (a : Int) (p : Nat) (w : World) (hp : Prm p) (h2 : p ≠ 2) (hp2 : p ≤ 2147483647) (ha0 : 0 ≤ a) (hap : a < p) (ha : Cong p (a ^ ((p - 1) / 2)) 1) :
    Calls Tryd.prog 69 #[.int .i64 a, .int .i64 p] w fun e w' => ∃ x : Int, e = .returned (.int .i64 x) ∧ 0 ≤ x ∧ x < p ∧ Cong p (x * x) a ∧ w = w' := by
  have h3 := three_le hp h2
  have hodd := hp.odd h2
  have craise : ∀ (b : Int) (n : Nat) w, 0 ≤ b → b ≤ 2147483647 → n ≤ 2147483647 → Calls Tryd.prog 66 #[.int .i64 b, .int .i64 n, .int .i64 p] w fun e w' => e = .returned (.int .i64 (b ^ n % p)) ∧ w = w' := fun b n w h1 h2 h4 =>
    raise_any b n p w (by omega) h1 h2 (by omega) (by omega)
  have CR := Lib.hid craise
  have HP' := Lib.hid hp
  have HA := Lib.hid ha
  clear craise ha
  go_enter Tryd.func69, Tryd.ntmps69
  go_wp2
  go_loop [5, 6] (fun x y => ∃ (o s : Nat), x = .int .i64 o ∧ y = .int .i64 s ∧ 1 ≤ o ∧ o ≤ 2147483647 ∧ s + o ≤ p - 1 ∧ Hid (p - 1 = 2 ^ s * o)) (fun x _ => (intOf x).toNat)
  case atStart => exact ⟨p - 1, 0, by rw [Int.natCast_sub (by omega)]; rfl, rfl, by omega, by omega, by omega, by rw [Hid, Nat.pow_zero, Nat.one_mul]⟩
  case round =>
    obtain ⟨o, s, rfl, rfl, o1, o2, o3, HO⟩ := hrel
    by_cases ho : o % 2 = 0
    · have ho' : ((o : Int) % 2 == 0) = true := by rw [beq_iff_eq]; omega
      have e : p - 1 = 2 ^ (s + 1) * (o / 2) := by
        rw [HO.out, Nat.pow_succ, Nat.mul_assoc]
        congr 1
        omega
      have HE := Lib.hid e
      clear e HO
      go_wp2
      go_round
      case rel => exact ⟨o / 2, s + 1, by simp, by go_num, by omega, by omega, by omega, HE.out⟩
      case measure => simp [intOf]; omega
    · have ho' : ((o : Int) % 2 == 0) = false := by rw [beq_eq_false_iff_ne]; omega
      have hs : 1 ≤ s := Nat.pos_of_ne_zero fun h => by
        have e := HO.out
        rw [h, Nat.pow_zero, Nat.one_mul] at e
        omega
      obtain ⟨b0, hb0, hb1, hb2⟩ := nonsquare HP'.out h2
      obtain ⟨B, ⟨hB0, hB1⟩, hB2, hB3⟩ := least_exists (P := fun b : Nat => 2 ≤ b ∧ ¬ Cong p ((b : Int) ^ ((p - 1) / 2)) 1) b0 ⟨hb0, hb2⟩
      have hBp : ¬ (p : Int) ∣ (B : Int) := fun h => by
        have := Nat.le_of_dvd (by omega) (Int.natCast_dvd_natCast.1 h)
        omega
      have hT := ton_start HP'.out HO.out (by omega) hs HA.out hBp hB1
      have HT := Lib.hid hT
      have HB1 := Lib.hid hB1
      have HB3 := Lib.hid hB3
      have hBlt : B < p := by omega
      clear hT hB1 hB3 hb0 hb1 hb2 hB2
      go_wp2
      go_loop [7] (fun x => ∃ b : Nat, x = .int .i64 b ∧ 2 ≤ b ∧ b ≤ B) (fun x => B - (intOf x).toNat)
      case atStart => exact ⟨2, rfl, by omega, hB0⟩
      case round =>
        obtain ⟨b, rfl, b1, b2⟩ := hrel
        have c := fun w => CR.out b ((p - 1) / 2) w (by omega) (by omega) (by omega)
        have e1 : (((p - 1) / 2 : Nat) : Int) = ((p : Int) - 1) / 2 := by omega
        rw [e1] at c
        have f1 := Int.emod_nonneg ((b : Int) ^ ((p - 1) / 2)) (show (p : Int) ≠ 0 by omega)
        have f2 := Int.emod_lt_of_pos ((b : Int) ^ ((p - 1) / 2)) (show (0 : Int) < p by omega)
        have tst : ((b : Int) ^ ((p - 1) / 2) % p = 1) ↔ Cong p ((b : Int) ^ ((p - 1) / 2)) 1 :=
          ⟨fun h => (Cong.emod _ _).symm.trans (by rw [h]; exact Cong.refl _ _), fun h => res_one HP'.out f1 f2 ((Cong.emod _ _).trans h)⟩
        by_cases hb : b = B
        · subst hb
          have t : ((b : Int) ^ ((p - 1) / 2) % p == 1) = false := by rw [beq_eq_false_iff_ne]; exact fun h => HB1.out (tst.1 h)
          have c1 := fun w => CR.out b o w (by omega) (by omega) (by omega)
          have c2 := fun w => CR.out a ((o + 1) / 2) w ha0 (by omega) (by omega)
          have c3 := fun w => CR.out a o w ha0 (by omega) (by omega)
          have e2 : (((o + 1) / 2 : Nat) : Int) = ((o : Int) + 1) / 2 := by omega
          rw [e2] at c2
          have g1 := Int.emod_nonneg ((b : Int) ^ o) (show (p : Int) ≠ 0 by omega)
          have g2 := Int.emod_lt_of_pos ((b : Int) ^ o) (show (0 : Int) < p by omega)
          have g3 := Int.emod_nonneg (a ^ ((o + 1) / 2)) (show (p : Int) ≠ 0 by omega)
          have g4 := Int.emod_lt_of_pos (a ^ ((o + 1) / 2)) (show (0 : Int) < p by omega)
          have g5 := Int.emod_nonneg (a ^ o) (show (p : Int) ≠ 0 by omega)
          have g6 := Int.emod_lt_of_pos (a ^ o) (show (0 : Int) < p by omega)
          generalize (b : Int) ^ ((p - 1) / 2) % (p : Int) = A at *
          generalize (b : Int) ^ o % (p : Int) = Z at *
          generalize a ^ ((o + 1) / 2) % (p : Int) = X at *
          generalize a ^ o % (p : Int) = T at *
          have C := Lib.hid c
          have C1 := Lib.hid c1
          have C2 := Lib.hid c2
          have C3 := Lib.hid c3
          clear c c1 c2 c3 tst e1 e2 HB1 HB3
          go_wp2_with (go_at_call 66; with_reducible first
            | (refine (C.out _).mono ?_; rintro x w' ⟨rfl, rfl⟩)
            | (refine (C1.out _).mono ?_; rintro x w' ⟨rfl, rfl⟩)
            | (refine (C2.out _).mono ?_; rintro x w' ⟨rfl, rfl⟩)
            | (refine (C3.out _).mono ?_; rintro x w' ⟨rfl, rfl⟩))
          go_loop [6, 8, 9, 10] (fun y6 y8 y9 y10 => ∃ (s : Nat) (z x t : Int), y6 = .int .i64 s ∧ y8 = .int .i64 z ∧ y9 = .int .i64 x ∧ y10 = .int .i64 t ∧ s ≤ 2147483647 ∧ 0 ≤ z ∧ z < p ∧ 0 ≤ x ∧ x < p ∧ 0 ≤ t ∧ t < p ∧ Hid (Ton p a s x z t)) (fun y _ _ _ => (intOf y).toNat)
          case atStart => exact ⟨s, Z, X, T, rfl, rfl, rfl, rfl, by omega, g1, g2, g3, g4, g5, g6, HT.out⟩
          case round =>
            clear C C1 C2 C3 HT t f1 f2 g1 g2 g3 g4 g5 g6 HO HA CR hs hBp ho' ho
            obtain ⟨s, z, x, t, rfl, rfl, rfl, rfl, s1, z1, z2, x1, x2, t1, t2, HTon⟩ := hrel
            by_cases ht : t = 1
            · subst ht
              have e := HTon.out.2.1
              rw [Int.mul_one] at e
              have E := Lib.hid e
              clear e
              go_wp2
              go_ret
              exact ⟨x, rfl, x1, x2, E.out, rfl⟩
            · have htb : (t != 1) = true := by rw [bne_iff_ne]; exact ht
              have hs1 := HTon.out.1
              have hmod : ∀ j, Cong p (t ^ 2 ^ j % p) (t ^ 2 ^ j) := fun j => Cong.emod _ _
              go_wp2
              go_loop [11, 12] (fun y11 y12 => ∃ (k : Nat) (q : Int), y11 = .int .i64 k ∧ y12 = .int .i64 q ∧ k + 1 ≤ s ∧ 0 ≤ q ∧ q < p ∧ Hid (q = t ^ 2 ^ k % p) ∧ Hid (∀ j, j < k → ¬ Cong p (t ^ 2 ^ j) 1)) (fun y _ => s - (intOf y).toNat)
              case atStart =>
                have h0 : ∀ j, j < 0 → ¬ Cong p (t ^ 2 ^ j) 1 := fun j h => absurd h (Nat.not_lt_zero _)
                exact ⟨0, t, rfl, rfl, by omega, t1, t2, by rw [Hid, Nat.pow_zero, Int.pow_one, Int.emod_eq_of_lt t1 t2], h0⟩
              case round =>
                obtain ⟨k, q, rfl, rfl, k1, q1, q2, HQ, HM⟩ := hrel
                by_cases hq : q = 1
                · have hqb : (q != 1) = false := by rw [bne_eq_false_iff_eq]; exact hq
                  have hk : Cong p (t ^ 2 ^ k) 1 := (Cong.emod _ _).symm.trans (by rw [← HQ.out, hq]; exact Cong.refl _ _)
                  have hk1 : 1 ≤ k := Nat.pos_of_ne_zero fun h => by
                    subst h
                    rw [Nat.pow_zero, Int.pow_one] at hk
                    exact ht (res_one HP'.out t1 t2 hk)
                  have HK := Lib.hid hk
                  clear hk HQ hmod
                  have e3 : ((s - k - 1 : Nat) : Int) = (s : Int) - k - 1 := by omega
                  go_wp2
                  go_loop [8, 61] (fun y8 y61 => ∃ (i : Nat) (zz : Int), y61 = .int .i64 i ∧ y8 = .int .i64 zz ∧ i ≤ s - k - 1 ∧ 0 ≤ zz ∧ zz < p ∧ Hid (Cong p zz (z ^ 2 ^ i))) (fun _ y => s - (intOf y).toNat)
                  case atStart =>
                    have h0 : Cong p z (z ^ 2 ^ 0) := by rw [Nat.pow_zero, Int.pow_one]; exact Cong.refl _ _
                    exact ⟨0, z, rfl, rfl, by omega, z1, z2, h0⟩
                  case round =>
                    obtain ⟨i, zz, rfl, rfl, i1, zz1, zz2, HZ⟩ := hrel
                    obtain ⟨o1', o2'⟩ := mul_bd zz1 (by omega) zz1 (by omega)
                    have m1 := Int.emod_nonneg (zz * zz) (show (p : Int) ≠ 0 by omega)
                    have m2 := Int.emod_lt_of_pos (zz * zz) (show (0 : Int) < p by omega)
                    by_cases hi : i < s - k - 1
                    · have hlt : (i : Int) < (s : Int) - k - 1 := by omega
                      have hz : Cong p (zz * zz % p) (z ^ 2 ^ (i + 1)) := (Cong.emod _ _).trans (by rw [pow_two_succ]; exact HZ.out.mul HZ.out)
                      have HZ' := Lib.hid hz
                      clear hz HZ
                      go_wp2
                      go_round
                      case rel => exact ⟨i + 1, _, by go_num, rfl, by omega, m1, m2, HZ'.out⟩
                      case measure => simp [intOf]; omega
                    · obtain rfl : i = s - k - 1 := by omega
                      have hst := ton_step HP'.out HTon.out hk1 k1 HK.out HM.out HZ.out
                      have HST := Lib.hid hst
                      obtain ⟨n1, n2⟩ := mul_bd x1 (by omega) zz1 (by omega)
                      have n3 := Int.emod_nonneg (x * zz) (show (p : Int) ≠ 0 by omega)
                      have n4 := Int.emod_lt_of_pos (x * zz) (show (0 : Int) < p by omega)
                      obtain ⟨l1, l2⟩ := mul_bd t1 (by omega) m1 (by omega)
                      have l3 := Int.emod_nonneg (t * (zz * zz % p)) (show (p : Int) ≠ 0 by omega)
                      have l4 := Int.emod_lt_of_pos (t * (zz * zz % p)) (show (0 : Int) < p by omega)
                      clear hst HZ HK HM
                      go_wp2
                      go_round
                      case rel => exact ⟨k, _, _, _, rfl, rfl, rfl, rfl, by omega, m1, m2, n3, n4, l3, l4, HST.out⟩
                      case measure => simp [intOf]; omega
                · have hqb : (q != 1) = true := by rw [bne_iff_ne]; exact hq
                  have hno : ¬ Cong p (t ^ 2 ^ k) 1 := fun h => hq (res_one HP'.out q1 q2 (by
                    have e := HQ.out
                    rw [e]
                    exact (Cong.emod _ _).trans h))
                  have hks : k + 1 < s := by
                    apply Nat.lt_of_le_of_ne k1
                    intro h
                    have h4 := HTon.out.2.2.2
                    rw [show s - 1 = k by omega] at h4
                    exact hno h4
                  have hq2 : q * q % p = t ^ 2 ^ (k + 1) % p := by
                    rw [HQ.out, sq_step, Nat.pow_succ, Nat.mul_comm 2]
                  have hm2 : ∀ j, j < k + 1 → ¬ Cong p (t ^ 2 ^ j) 1 := fun j hj => by
                    rcases Nat.lt_or_ge j k with h | h
                    · exact HM.out j h
                    · obtain rfl : j = k := by omega
                      exact hno
                  have HQ2 := Lib.hid hq2
                  have HM2 := Lib.hid hm2
                  obtain ⟨o1', o2'⟩ := mul_bd q1 (by omega) q1 (by omega)
                  have m1 := Int.emod_nonneg (q * q) (show (p : Int) ≠ 0 by omega)
                  have m2 := Int.emod_lt_of_pos (q * q) (show (0 : Int) < p by omega)
                  clear hq2 hm2 hno HQ HM hmod
                  go_wp2
                  go_round
                  case rel => exact ⟨k + 1, _, by go_num, rfl, by omega, m1, m2, HQ2.out, HM2.out⟩
                  case measure => simp [intOf]; omega
        · have hno : Cong p ((b : Int) ^ ((p - 1) / 2)) 1 := Classical.byContradiction fun h => HB3.out b (by omega) ⟨b1, h⟩
          have t : ((b : Int) ^ ((p - 1) / 2) % p == 1) = true := by rw [beq_iff_eq]; exact tst.2 hno
          generalize (b : Int) ^ ((p - 1) / 2) % (p : Int) = A at *
          have C := Lib.hid c
          clear c tst e1 hno
          go_wp2_with (go_at_call 66; refine (C.out _).mono ?_; rintro x w' ⟨rfl, rfl⟩)
          go_round
          case rel => exact ⟨b + 1, by go_num, by omega, by omega⟩
          case measure => simp [intOf]; omega

theorem sqrt_err (a p : Int) (e : Int) (w : World) (he : e ≠ 0) (h : ∀ w, Calls Tryd.prog 68 #[.int .i64 p] w fun x w' => x = .returned (.int .i64 e) ∧ w = w') :
    Calls Tryd.prog 40 #[.int .i64 a, .int .i64 p] w fun x w' => x = .returned (.tuple #[.int .i64 0, .bool false, .int .i64 e]) ∧ w = w' := by
  have C := Lib.hid h
  have t : (e != 0) = true := by rw [bne_iff_ne]; exact he
  clear h he
  go_enter Tryd.func40, Tryd.ntmps40
  go_wp2_with (go_at_call 68; refine (C.out _).mono ?_; rintro x w' ⟨rfl, rfl⟩)
  go_ret3
  exact ⟨rfl, rfl⟩
theorem sqrt_small (a : Int) (p : Nat) (w : World) (hp : Prm p) (hp2 : p ≤ 2147483647) (h : a % (p : Int) = 0 ∨ p = 2) :
    Calls Tryd.prog 40 #[.int .i64 a, .int .i64 p] w fun x w' => x = .returned (.tuple #[.int .i64 (a % (p : Int)), .bool true, .int .i64 0]) ∧ w = w' := by
  have cm := fun w => modulus_any p true w hp.1 hp2 (prmB_of hp)
  have cr := fun w => residue_any a p w (by have := hp.1; omega) (by omega)
  have CM := Lib.hid cm
  clear cm
  by_cases h0 : a % (p : Int) = 0
  · rw [h0] at cr ⊢
    have CR := Lib.hid cr
    clear cr h hp h0
    go_enter Tryd.func40, Tryd.ntmps40
    go_wp2_with (first
      | (go_at_call 68; refine (CM.out _).mono ?_; rintro x w' ⟨rfl, rfl⟩)
      | (go_at_call 57; refine (CR.out _).mono ?_; rintro x w' ⟨rfl, rfl⟩))
    go_ret3
    exact ⟨rfl, rfl⟩
  · have e2 : p = 2 := by omega
    have t0 : (a % (p : Int) == 0) = false := by rw [beq_eq_false_iff_ne]; exact h0
    have t1 : ((p : Int) == 2) = true := by rw [beq_iff_eq]; omega
    generalize a % (p : Int) = r at *
    have CR := Lib.hid cr
    clear cr h hp h0 e2
    go_enter Tryd.func40, Tryd.ntmps40
    go_wp2_with (first
      | (go_at_call 68; refine (CM.out _).mono ?_; rintro x w' ⟨rfl, rfl⟩)
      | (go_at_call 57; refine (CR.out _).mono ?_; rintro x w' ⟨rfl, rfl⟩))
    go_ret3
    exact ⟨rfl, rfl⟩
theorem euler_test {a : Int} {p : Nat} (hp : Prm p) : a ^ ((p - 1) / 2) % (p : Int) = 1 ↔ Cong p (a ^ ((p - 1) / 2)) 1 := by
  have f1 := Int.emod_nonneg (a ^ ((p - 1) / 2)) (show (p : Int) ≠ 0 by have := hp.1; omega)
  have f2 := Int.emod_lt_of_pos (a ^ ((p - 1) / 2)) (show (0 : Int) < p by have := hp.1; omega)
  exact ⟨fun h => (Cong.emod _ _).symm.trans (by rw [h]; exact Cong.refl _ _), fun h => res_one hp f1 f2 ((Cong.emod _ _).trans h)⟩
theorem sqrt_no (a : Int) (p : Nat) (w : World) (hp : Prm p) (hp2 : p ≤ 2147483647) (h2 : p ≠ 2) (h0 : ¬ a % (p : Int) = 0) (h : ¬ Cong p (a ^ ((p - 1) / 2)) 1) :
    Calls Tryd.prog 40 #[.int .i64 a, .int .i64 p] w fun x w' => x = .returned (.tuple #[.int .i64 0, .bool false, .int .i64 0]) ∧ w = w' := by
  have h2p := hp.1
  have cm := fun w => modulus_any p true w hp.1 hp2 (prmB_of hp)
  have cr := fun w => residue_any a p w (by omega) (by omega)
  have b1 := Int.emod_nonneg a (show (p : Int) ≠ 0 by omega)
  have b2 := Int.emod_lt_of_pos a (show (0 : Int) < p by omega)
  have cx := fun w => raise_any (a % p) ((p - 1) / 2) p w (by omega) b1 (by omega) (by omega) (by omega)
  rw [pow_emod, show (((p - 1) / 2 : Nat) : Int) = ((p : Int) - 1) / 2 by omega] at cx
  have t2 : (a ^ ((p - 1) / 2) % (p : Int) != 1) = true := by rw [bne_iff_ne]; exact fun h1 => h ((euler_test hp).1 h1)
  have t0 : (a % (p : Int) == 0) = false := by rw [beq_eq_false_iff_ne]; exact h0
  have t1 : ((p : Int) == 2) = false := by rw [beq_eq_false_iff_ne]; omega
  generalize a ^ ((p - 1) / 2) % (p : Int) = A at *
  generalize a % (p : Int) = r at *
  have CM := Lib.hid cm
  have CR := Lib.hid cr
  have CX := Lib.hid cx
  clear cm cr cx h h0 h2 hp
  go_enter Tryd.func40, Tryd.ntmps40
  go_wp2_with (first
    | (go_at_call 68; refine (CM.out _).mono ?_; rintro x w' ⟨rfl, rfl⟩)
    | (go_at_call 57; refine (CR.out _).mono ?_; rintro x w' ⟨rfl, rfl⟩)
    | (go_at_call 66; refine (CX.out _).mono ?_; rintro x w' ⟨rfl, rfl⟩))
  go_ret3
  exact ⟨rfl, rfl⟩
theorem refl_sq {p x r : Int} (h : Cong p (x * x) r) : Cong p ((p - x) * (p - x)) r :=
  Cong.trans ⟨p - 2 * x, by grind⟩ h
theorem sqrt_yes (a : Int) (p : Nat) (w : World) (hp : Prm p) (hp2 : p ≤ 2147483647) (h2 : p ≠ 2) (h0 : ¬ a % (p : Int) = 0) (h : Cong p (a ^ ((p - 1) / 2)) 1) :
    Calls Tryd.prog 40 #[.int .i64 a, .int .i64 p] w fun e w' => ∃ x : Int, e = .returned (.tuple #[.int .i64 x, .bool true, .int .i64 0]) ∧ 0 ≤ x ∧ 2 * x ≤ p ∧ Cong p (x * x) a ∧ w = w' := by
  have h2p := hp.1
  have cm := fun w => modulus_any p true w hp.1 hp2 (prmB_of hp)
  have cr := fun w => residue_any a p w (by omega) (by omega)
  have b1 := Int.emod_nonneg a (show (p : Int) ≠ 0 by omega)
  have b2 := Int.emod_lt_of_pos a (show (0 : Int) < p by omega)
  have cx := fun w => raise_any (a % p) ((p - 1) / 2) p w (by omega) b1 (by omega) (by omega) (by omega)
  rw [pow_emod, show (((p - 1) / 2 : Nat) : Int) = ((p : Int) - 1) / 2 by omega] at cx
  have ct := fun w => tonelli_any (a % p) p w hp h2 hp2 b1 b2 (((Cong.emod _ _).pow _).trans h)
  have t2 : (a ^ ((p - 1) / 2) % (p : Int) != 1) = false := by rw [bne_eq_false_iff_eq]; exact (euler_test hp).2 h
  have t0 : (a % (p : Int) == 0) = false := by rw [beq_eq_false_iff_ne]; exact h0
  have t1 : ((p : Int) == 2) = false := by rw [beq_eq_false_iff_ne]; omega
  have hra : Cong p (a % (p : Int)) a := Cong.emod _ _
  generalize a ^ ((p - 1) / 2) % (p : Int) = A at *
  generalize a % (p : Int) = r at *
  have CM := Lib.hid cm
  have CR := Lib.hid cr
  have CX := Lib.hid cx
  have CT := Lib.hid ct
  have HRA := Lib.hid hra
  clear cm cr cx ct h h0 h2 hp hra
  go_enter Tryd.func40, Tryd.ntmps40
  go_wp2_with (first
    | (go_at_call 68; refine (CM.out _).mono ?_; rintro x w' ⟨rfl, rfl⟩)
    | (go_at_call 57; refine (CR.out _).mono ?_; rintro x w' ⟨rfl, rfl⟩)
    | (go_at_call 66; refine (CX.out _).mono ?_; rintro x w' ⟨rfl, rfl⟩)
    | (go_at_call 69; refine (CT.out _).mono ?_; rintro _ w' ⟨x, rfl, x1, x2, x3, rfl⟩))
  all_goals go_ret3
  all_goals first
    | exact ⟨x, rfl, x1, by omega, x3.trans HRA.out, rfl⟩
    | exact ⟨(p : Int) - x, rfl, by omega, by omega, (refl_sq x3).trans HRA.out, rfl⟩
end Go.Proofs.YtjmldlbiihaefaaDoor
