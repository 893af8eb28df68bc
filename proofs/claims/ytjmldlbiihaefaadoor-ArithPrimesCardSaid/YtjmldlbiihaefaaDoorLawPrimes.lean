/- The law ArithPrimes: its walk. -/
import Derived.Test.YtjmldlbiihaefaaDoorAriN
namespace Go.Proofs.YtjmldlbiihaefaaDoor
open Go.RowKit HP

set_option maxHeartbeats 1000000 in
set_option maxRecDepth 100000 in
theorem primes_law (n k : Int) (w : World) (hT : TabW w) (hB : 0 < w.heap.size)
    (_ : -9223372036854775808 ≤ n) (_ : n ≤ 9223372036854775807) (_ : -9223372036854775808 ≤ k) (_ : k ≤ 9223372036854775807) :
    Calls Tryd.prog 9 #[.int .i64 n, .int .i64 k] w fun x w' => x = .returned (.bool true) ∧ Below w.heap.size w w' := by
  have CAW := Lib.hid (awake_any w hT hB)
  clear hT
  have cn : 2147483647 < n ∧ (∀ w, Calls Tryd.prog 27 #[.int .i64 n] w fun x w' => x = .returned (.tuple #[.bool false, .int .i64 2]) ∧ w = w') ∨ n ≤ 2147483647 ∧ ∃ b, (∀ w, Calls Tryd.prog 27 #[.int .i64 n] w fun x w' => x = .returned (.tuple #[.bool b, .int .i64 0]) ∧ w = w') ∧ (∀ w, Calls Tryd.prog 28 #[.int .i64 n] w fun x w' => x = .returned (.bool b) ∧ w = w') := by
    by_cases h : 2147483647 < n
    · exact .inl ⟨h, fun w => isprime_no n w h⟩
    · exact .inr ⟨by omega, _, fun w => isprime_any n w (by omega), fun w => rprime_any n w (by omega)⟩
  have ck : 1048576 < k ∧ (∀ w, Calls Tryd.prog 29 #[.int .i64 k] w fun x w' => x = .returned (.tuple #[.slice none 0 0, .int .i64 2]) ∧ Below w.heap.size w w') ∨
      k ≤ 1048576 ∧ ∀ w, Calls Tryd.prog 29 #[.int .i64 k] w fun x w' => ∃ v, x = .returned (.tuple #[v, .int .i64 0]) ∧ IntsAt w.heap.size w' v (prmsI k.toNat) ∧ Below w.heap.size w w' := by
    by_cases h : 1048576 < k
    · exact .inl ⟨h, fun w => (primes_no k w h).mono fun x w' ⟨h1, h2⟩ => ⟨h1, by subst h2; exact Below.refl _ _⟩⟩
    · refine .inr ⟨by omega, fun w => ?_⟩
      by_cases h2 : k < 2
      · refine (primes_small k w h2 (by omega)).mono fun x w' ⟨h3, h4⟩ => ⟨_, h3, .inl ⟨rfl, prmsI_small (by omega)⟩, h4⟩
      · obtain ⟨K, rfl⟩ := Int.eq_ofNat_of_zero_le (show 0 ≤ k by omega)
        rw [Int.toNat_natCast]
        exact primes_any K w (by omega) (by omega)
  have CR := Lib.hid (fun w (h : k ≤ 1048576) => rprimes_any k w h)
  rcases cn with ⟨hn, ci⟩ | ⟨hn, b, ci, cr⟩
  · have CI := Lib.hid ci
    have dn : decide (2147483647 < n) = true := by simpa using hn
    clear ci
    rcases ck with ⟨hk, cp⟩ | ⟨hk, cp⟩
    · have CP := Lib.hid cp
      have dk : decide (1048576 < k) = true := by simpa using hk
      clear cp CR
      go_enter Tryd.func9, Tryd.ntmps9
      go_wp2_with fail
      refine CAW.out.mono ?_
      rintro x w1 ⟨rfl, hb1⟩
      have hs1 := hb1.size
      have HB1 := Lib.hid hb1
      clear hb1
      go_wp2_with (go_at_call 27; refine (CI.out _).mono ?_; rintro x w' ⟨rfl, rfl⟩)
      refine (CP.out _).mono ?_
      rintro x w2 ⟨rfl, hb2⟩
      have HB2 := Lib.hid (HB1.out.trans (hb2.mono hs1))
      clear hb2
      go_wp2
      go_ret
      exact ⟨rfl, HB2.out⟩
    · have CP := Lib.hid cp
      have dk : decide (1048576 < k) = false := by simpa using hk
      have CR2 := Lib.hid (fun w => CR.out w hk)
      clear CR
      by_cases h3 : 3000 < k
      · have d3 : decide (3000 < k) = true := by simpa using h3
        clear cp CR2
        go_enter Tryd.func9, Tryd.ntmps9
        go_wp2_with fail
        refine CAW.out.mono ?_
        rintro x w1 ⟨rfl, hb1⟩
        have hs1 := hb1.size
        have HB1 := Lib.hid hb1
        clear hb1
        go_wp2_with (go_at_call 27; refine (CI.out _).mono ?_; rintro x w' ⟨rfl, rfl⟩)
        refine (CP.out _).mono ?_
        rintro x w2 ⟨v, rfl, hv, hb2⟩
        have HB2 := Lib.hid (HB1.out.trans (hb2.mono hs1))
        clear hb2 hv
        go_wp2
        go_ret
        exact ⟨rfl, HB2.out⟩
      · have d3 : decide (3000 < k) = false := by simpa using h3
        clear cp
        go_enter Tryd.func9, Tryd.ntmps9
        go_wp2_with fail
        refine CAW.out.mono ?_
        rintro x w1 ⟨rfl, hb1⟩
        have hs1 := hb1.size
        have HB1 := Lib.hid hb1
        clear hb1
        go_wp2_with (go_at_call 27; refine (CI.out _).mono ?_; rintro x w' ⟨rfl, rfl⟩)
        refine (CP.out _).mono ?_
        rintro x w2 ⟨v, rfl, hv, hb2⟩
        have hs2 := hb2.size
        have HB2 := Lib.hid (HB1.out.trans (hb2.mono hs1))
        have HV := Lib.hid hv
        clear hb2 hv
        go_wp2_with fail
        refine (CR2.out _).mono ?_
        rintro x w3 ⟨v', rfl, hv', hb3⟩
        have hs3 := hb3.size
        have HB3 := Lib.hid (HB2.out.trans (hb3.mono (by omega)))
        have HI := Lib.hid (ints_same (HV.out.below hb3 (Nat.le_refl _)) hv')
        clear hb3 hv' HV
        go_wp2_with fail
        refine HI.out.mono ?_
        rintro x w4 ⟨rfl, m, rfl⟩
        go_wp2
        go_ret
        exact ⟨rfl, below_drewN HB3.out m⟩
  · have CI := Lib.hid ci
    have CQ := Lib.hid cr
    have dn : decide (2147483647 < n) = false := by simpa using hn
    have eb : (b != b) = false := by simp
    clear ci cr
    rcases ck with ⟨hk, cp⟩ | ⟨hk, cp⟩
    · have CP := Lib.hid cp
      have dk : decide (1048576 < k) = true := by simpa using hk
      clear cp CR
      go_enter Tryd.func9, Tryd.ntmps9
      go_wp2_with fail
      refine CAW.out.mono ?_
      rintro x w1 ⟨rfl, hb1⟩
      have hs1 := hb1.size
      have HB1 := Lib.hid hb1
      clear hb1
      go_wp2_with (first | (go_at_call 27; refine (CI.out _).mono ?_; rintro x w' ⟨rfl, rfl⟩) | (go_at_call 28; refine (CQ.out _).mono ?_; rintro x w' ⟨rfl, rfl⟩))
      refine (CP.out _).mono ?_
      rintro x w2 ⟨rfl, hb2⟩
      have HB2 := Lib.hid (HB1.out.trans (hb2.mono hs1))
      clear hb2
      go_wp2
      go_ret
      exact ⟨rfl, HB2.out⟩
    · have CP := Lib.hid cp
      have dk : decide (1048576 < k) = false := by simpa using hk
      have CR2 := Lib.hid (fun w => CR.out w hk)
      clear CR
      by_cases h3 : 3000 < k
      · have d3 : decide (3000 < k) = true := by simpa using h3
        clear cp CR2
        go_enter Tryd.func9, Tryd.ntmps9
        go_wp2_with fail
        refine CAW.out.mono ?_
        rintro x w1 ⟨rfl, hb1⟩
        have hs1 := hb1.size
        have HB1 := Lib.hid hb1
        clear hb1
        go_wp2_with (first | (go_at_call 27; refine (CI.out _).mono ?_; rintro x w' ⟨rfl, rfl⟩) | (go_at_call 28; refine (CQ.out _).mono ?_; rintro x w' ⟨rfl, rfl⟩))
        refine (CP.out _).mono ?_
        rintro x w2 ⟨v, rfl, hv, hb2⟩
        have HB2 := Lib.hid (HB1.out.trans (hb2.mono hs1))
        clear hb2 hv
        go_wp2
        go_ret
        exact ⟨rfl, HB2.out⟩
      · have d3 : decide (3000 < k) = false := by simpa using h3
        clear cp
        go_enter Tryd.func9, Tryd.ntmps9
        go_wp2_with fail
        refine CAW.out.mono ?_
        rintro x w1 ⟨rfl, hb1⟩
        have hs1 := hb1.size
        have HB1 := Lib.hid hb1
        clear hb1
        go_wp2_with (first | (go_at_call 27; refine (CI.out _).mono ?_; rintro x w' ⟨rfl, rfl⟩) | (go_at_call 28; refine (CQ.out _).mono ?_; rintro x w' ⟨rfl, rfl⟩))
        refine (CP.out _).mono ?_
        rintro x w2 ⟨v, rfl, hv, hb2⟩
        have hs2 := hb2.size
        have HB2 := Lib.hid (HB1.out.trans (hb2.mono hs1))
        have HV := Lib.hid hv
        clear hb2 hv
        go_wp2_with fail
        refine (CR2.out _).mono ?_
        rintro x w3 ⟨v', rfl, hv', hb3⟩
        have hs3 := hb3.size
        have HB3 := Lib.hid (HB2.out.trans (hb3.mono (by omega)))
        have HI := Lib.hid (ints_same (HV.out.below hb3 (Nat.le_refl _)) hv')
        clear hb3 hv' HV
        go_wp2_with fail
        refine HI.out.mono ?_
        rintro x w4 ⟨rfl, m, rfl⟩
        go_wp2
        go_ret
        exact ⟨rfl, below_drewN HB3.out m⟩
end Go.Proofs.YtjmldlbiihaefaaDoor
