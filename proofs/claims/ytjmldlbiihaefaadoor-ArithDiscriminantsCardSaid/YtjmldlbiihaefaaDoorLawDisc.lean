/- The law ArithDiscriminants: its walk. -/
import Derived.Test.YtjmldlbiihaefaaDoorAriI
import Derived.Test.YtjmldlbiihaefaaDoorNumL
namespace Go.Proofs.YtjmldlbiihaefaaDoor
open Go.RowKit HP

set_option maxHeartbeats 1000000 in
theorem disc_law (d : Int) (w : World) (hT : TabW w) (hB : 0 < w.heap.size) (_ : -9223372036854775808 ≤ d) (_ : d ≤ 9223372036854775807) :
    Calls Tryd.prog 8 #[.int .i64 d] w fun x w' => x = .returned (.bool true) ∧ Below w.heap.size w w' := by
  have caw := awake_any w hT hB
  have ca := fun w => fund_any d w
  have cf := fun w => rfund_any d w
  have hfa := fund_again (d := d)
  have hrange : (fundOut d).2.2 = 0 → -2147483647 ≤ d ∧ d ≤ 2147483647 := fun h => by
    rcases fund_cases d with ⟨e, _⟩ | ⟨e, _⟩ | ⟨h1, _⟩
    · rw [e] at h; simp at h
    · rw [e] at h; simp at h
    · omega
  have ch := fun w => fund_any (fundOut d).1 w
  generalize fundOut d = o at *
  obtain ⟨D, F, E⟩ := o
  simp only at hfa cf ca ch hrange
  have CAW := Lib.hid caw
  have CA := Lib.hid ca
  have CF := Lib.hid cf
  clear hT caw cf ca
  by_cases hE : E = 0
  · obtain rfl := hE
    obtain ⟨h0, h1, h2⟩ := hfa rfl
    obtain ⟨r1, r2⟩ := hrange rfl
    rw [h0] at ch
    obtain ⟨b1, b2⟩ := fund_bd h1 h2 r1 r2
    have CH := Lib.hid ch
    clear ch h0 hfa hrange
    have H1 : (D * F * F == d) = true := by rw [beq_iff_eq]; exact h1
    have b3 : -2147483647 ≤ D * F * F := by omega
    have b4 : D * F * F ≤ 2147483647 := by omega
    clear h1
    go_enter Tryd.func8, Tryd.ntmps8
    go_wp2_with fail
    refine CAW.out.mono ?_
    rintro x w1 ⟨rfl, hb1⟩
    have HB1 := Lib.hid hb1
    have hs1 := hb1.size
    clear hb1
    go_wp2_with fail
    refine (CA.out _).mono ?_
    rintro x w2 ⟨rfl, hb2⟩
    have hs2 := hb2.size
    have HB2 := Lib.hid (HB1.out.trans (hb2.mono hs1))
    clear hb2
    go_wp2_with fail
    refine (CF.out _).mono ?_
    rintro x w3 ⟨rfl, hb3⟩
    have hs3 := hb3.size
    have HB3 := Lib.hid (HB2.out.trans (hb3.mono (by omega)))
    clear hb3
    go_wp2_with fail
    refine (CH.out _).mono ?_
    rintro x w4 ⟨rfl, hb4⟩
    have HB4 := Lib.hid (HB3.out.trans (hb4.mono (by omega)))
    clear hb4
    go_wp2_with fail
    go_ret
    exact ⟨rfl, HB4.out⟩
  · have hEb : (E != 0) = true := by simpa using hE
    clear hfa hrange ch
    go_enter Tryd.func8, Tryd.ntmps8
    go_wp2_with fail
    refine CAW.out.mono ?_
    rintro x w1 ⟨rfl, hb1⟩
    have HB1 := Lib.hid hb1
    have hs1 := hb1.size
    clear hb1
    go_wp2_with fail
    refine (CA.out _).mono ?_
    rintro x w2 ⟨rfl, hb2⟩
    have hs2 := hb2.size
    have HB2 := Lib.hid (HB1.out.trans (hb2.mono hs1))
    clear hb2
    go_wp2_with fail
    refine (CF.out _).mono ?_
    rintro x w3 ⟨rfl, hb3⟩
    have HB3 := Lib.hid (HB2.out.trans (hb3.mono (by omega)))
    clear hb3
    go_wp2_with fail
    all_goals go_ret
    all_goals exact ⟨rfl, HB3.out⟩
end Go.Proofs.YtjmldlbiihaefaaDoor
