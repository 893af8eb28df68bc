/- States in letters: the program's dimension formula; beta; the sums of the reference. -/
import Derived.Test.YteamlpflgfmieaaDoorDmA
namespace Go.Proofs.YteamlpflgfmieaaDoor
open Go Go.RowKit Go.VG HP
def specA (L K D : Int) : AV := .v (.agg [ix L, ix K, ix D])
set_option maxHeartbeats 8000000 in
set_option maxRecDepth 20000 in
theorem cuspm_sp (n f k : Nat) (four three : Int) (hn0 : 1 ≤ n) (hn : n ≤ 120) (hf0 : 1 ≤ f) (hf : f ≤ 120) (hfn : f ∣ n) (hk : 2 ≤ k) (hk2 : k ≤ 24) (h1 : -1000000 ≤ four) (h2 : four ≤ 1000000) (h3 : -1000000 ≤ three) (h4 : three ≤ 1000000) : Sp CX 34 [spA n f k four three] (int .i64 ((dim12 n k f four three).tdiv 12)) := by
  refine fn_sp (C := CX) [(2,0)] [] tysX_ok mixed Tryd.func34 rfl (by kernel_rfl) Tryd.ntmps34 rfl rfl ?_
  have hm := mul_small hn0 hn (show 1 ≤ k by omega) hk2
  have hl := lam_small (f := f) hn0 hn
  have e4 : (k : Int).tmod 4 = ((k % 4 : Nat) : Int) := (Int.ofNat_tmod k 4).symm
  have e3 : (k : Int).tmod 3 = ((k % 3 : Nat) : Int) := (Int.ofNat_tmod k 3).symm
  obtain ⟨ex, hex⟩ : ∃ ex : Int, ex = if (k : Int) = 2 ∧ (f : Int) = 1 then 1 else 0 := ⟨_, rfl⟩
  have hex2 : 0 ≤ ex ∧ ex ≤ 1 := by rw [hex]; split <;> omega
  have s := exc_sp n f k four three
  rw [← hex] at s
  have HEX := Lib.hid hex
  clear hex
  repeat' (conv => whnf
           first
             | (refine Ob.mk (by (first | omega | (simp only [InK]; omega) | exact ⟨by omega, tdivIn (by omega) (by omega)⟩ | exact ⟨by first | omega | (simp only [InK]; omega), by first | omega | (simp only [InK]; omega)⟩)) ?_)
             | (refine Cases.yes (by (first | assumption | exact decide_eq_true (by first | assumption | omega) | exact congrArg (!·) (decide_eq_false (by first | assumption | omega)) | exact congrArg (!·) (show _ = false by assumption) | rfl)) ?_)
             | (refine Cases.no (by (first | assumption | exact decide_eq_false (by first | assumption | omega) | exact congrArg (!·) (decide_eq_true (by first | assumption | omega)) | exact congrArg (!·) (show _ = true by assumption) | rfl)) ?_)
             | (refine Idx.mk ⟨_, rfl, by first | assumption | omega, ?_⟩)
             | (refine Idx.mk ⟨0, rfl, by omega, ?_⟩)
             | (refine DrawOb.start ?_)
             | (refine TryF.fast rfl (by decide +kernel) (by kernel_rfl) ?_)
             | (refine TryF.next rfl ?_)
             | (refine TryF.other ?_)
             | (refine TryG.go rfl (by decide +kernel) (by kernel_rfl) ?_)
             | (refine TryG.next rfl ?_)
             | (refine Sp.call (psi_sp n (by omega) (by omega)) (ArgsLe.refl _) rfl (AvLe.refl _) ?_))
  refine ⟨⟨Int, fun t => ⟨[(1, .v (.c (.loc 0 0))), (5, int .i64 t)], [(0, .st [ix n, ix f, ix k, ix four, ix three])], 1⟩, fun t => t = ((k : Int) - 1) * psi n - 6 * lam f n + 12 * ex, ?_, ?_⟩⟩
  · repeat' (conv => whnf
             first
               | (refine Ob.mk (by (first | omega | (simp only [InK]; omega) | exact ⟨by omega, tdivIn (by omega) (by omega)⟩ | exact ⟨by first | omega | (simp only [InK]; omega), by first | omega | (simp only [InK]; omega)⟩)) ?_)
               | (refine Cases.yes (by (first | assumption | exact decide_eq_true (by first | assumption | omega) | exact congrArg (!·) (decide_eq_false (by first | assumption | omega)) | exact congrArg (!·) (show _ = false by assumption) | rfl)) ?_)
               | (refine Cases.no (by (first | assumption | exact decide_eq_false (by first | assumption | omega) | exact congrArg (!·) (decide_eq_true (by first | assumption | omega)) | exact congrArg (!·) (show _ = true by assumption) | rfl)) ?_)
               | (refine Idx.mk ⟨_, rfl, by first | assumption | omega, ?_⟩)
               | (refine Idx.mk ⟨0, rfl, by omega, ?_⟩)
               | (refine DrawOb.start ?_)
               | (refine TryF.fast rfl (by decide +kernel) (by kernel_rfl) ?_)
               | (refine TryF.next rfl ?_)
               | (refine TryF.other ?_)
               | (refine TryG.go rfl (by decide +kernel) (by kernel_rfl) ?_)
               | (refine TryG.next rfl ?_)
               | (refine Sp.call (psi_sp n (by omega) (by omega)) (ArgsLe.refl _) rfl (AvLe.refl _) ?_)
               | (refine Sp.call (lam_sp n f k four three (by omega) (by omega) (by omega) (by omega) hfn) (ArgsLe.refl _) rfl (AvLe.refl _) ?_)
               | (refine Sp.call (s) (ArgsLe.refl _) rfl (AvLe.refl _) ?_))
    exact ⟨_, [], rfl, (by refine ⟨?_, ?_, rfl⟩ <;> repeat (first | exact TmE.nil | exact OwnE.nil | refine TmE.cons (by first | exact AvLe.refl _ | exact AvLe.int (by omega) | exact AvLe.bool (by first | rfl | assumption)) ?_ | refine OwnE.cons rfl (BlkLe.refl _) ?_ | refine OwnE.cons rfl BlkLe.zero ?_))⟩
  · intro t ht
    have hts : -1000000 ≤ t ∧ t ≤ 1000000 := by omega
    repeat' (conv => whnf
             first
               | (refine Ob.mk (by (first | omega | (simp only [InK]; omega) | exact ⟨by omega, tdivIn (by omega) (by omega)⟩ | exact ⟨by first | omega | (simp only [InK]; omega), by first | omega | (simp only [InK]; omega)⟩)) ?_)
               | (refine Cases.yes (by (first | assumption | exact decide_eq_true (by first | assumption | omega) | exact congrArg (!·) (decide_eq_false (by first | assumption | omega)) | exact congrArg (!·) (show _ = false by assumption) | rfl)) ?_)
               | (refine Cases.no (by (first | assumption | exact decide_eq_false (by first | assumption | omega) | exact congrArg (!·) (decide_eq_true (by first | assumption | omega)) | exact congrArg (!·) (show _ = true by assumption) | rfl)) ?_)
               | (refine Idx.mk ⟨_, rfl, by first | assumption | omega, ?_⟩)
               | (refine Idx.mk ⟨0, rfl, by omega, ?_⟩)
               | (refine DrawOb.start ?_)
               | (refine TryF.fast rfl (by decide +kernel) (by kernel_rfl) ?_)
               | (refine TryF.next rfl ?_)
               | (refine TryF.other ?_)
               | (refine TryG.go rfl (by decide +kernel) (by kernel_rfl) ?_)
               | (refine TryG.next rfl ?_)
               | (refine Cases.mk (fun hc => ?_) (fun hc => ?_) <;> (try simp only [Bool.not_eq_true', Bool.not_eq_false', decide_eq_true_eq, decide_eq_false_iff_not] at hc)))
    all_goals (refine ⟨⟨_, _, rfl, rfl, AvLe.int ?_⟩⟩)
    all_goals (unfold dim12; congr 1; have hq := HEX.out; (repeat' split) <;> omega)
theorem eis_sp (n f k : Nat) (four three : Int) (hn0 : 1 ≤ n) (hn : n ≤ 120) (hf0 : 1 ≤ f) (hf : f ≤ 120) (hfn : f ∣ n) : Sp CX 38 [spA n f k four three] (int .i64 (lam f n - if k = 2 ∧ f = 1 then 1 else 0)) := by
  refine fn_sp (C := CX) [] [] tysX_ok mixed Tryd.func38 rfl (by kernel_rfl) Tryd.ntmps38 rfl rfl ?_
  have hl := lam_small (f := f) hn0 hn
  obtain ⟨ex, hex⟩ : ∃ ex : Int, ex = if (k : Int) = 2 ∧ (f : Int) = 1 then 1 else 0 := ⟨_, rfl⟩
  have hex2 : 0 ≤ ex ∧ ex ≤ 1 := by rw [hex]; split <;> omega
  have s := exc_sp n f k four three
  rw [← hex] at s
  have HEX := Lib.hid hex
  clear hex
  repeat' (conv => whnf
           first
             | (refine Ob.mk (by (first | omega | (simp only [InK]; omega) | exact ⟨by omega, tdivIn (by omega) (by omega)⟩ | exact ⟨by first | omega | (simp only [InK]; omega), by first | omega | (simp only [InK]; omega)⟩)) ?_)
             | (refine Cases.yes (by (first | assumption | exact decide_eq_true (by first | assumption | omega) | exact congrArg (!·) (decide_eq_false (by first | assumption | omega)) | exact congrArg (!·) (show _ = false by assumption) | rfl)) ?_)
             | (refine Cases.no (by (first | assumption | exact decide_eq_false (by first | assumption | omega) | exact congrArg (!·) (decide_eq_true (by first | assumption | omega)) | exact congrArg (!·) (show _ = true by assumption) | rfl)) ?_)
             | (refine Idx.mk ⟨_, rfl, by first | assumption | omega, ?_⟩)
             | (refine Idx.mk ⟨0, rfl, by omega, ?_⟩)
             | (refine DrawOb.start ?_)
             | (refine TryF.fast rfl (by decide +kernel) (by kernel_rfl) ?_)
             | (refine TryF.next rfl ?_)
             | (refine TryF.other ?_)
             | (refine TryG.go rfl (by decide +kernel) (by kernel_rfl) ?_)
             | (refine TryG.next rfl ?_)
             | (refine Sp.call (lam_sp n f k four three (by omega) (by omega) (by omega) (by omega) hfn) (ArgsLe.refl _) rfl (AvLe.refl _) ?_)
             | (refine Sp.call (s) (ArgsLe.refl _) rfl (AvLe.refl _) ?_))
  refine ⟨⟨_, _, rfl, rfl, AvLe.int ?_⟩⟩
  have hq := HEX.out
  split <;> (split at hq <;> omega)
theorem bet_small {n : Nat} (h1 : 1 ≤ n) (h2 : n ≤ 120) (i : Nat) : -8 ≤ prodL betF ((facs n).take i) ∧ prodL betF ((facs n).take i) ≤ 8 := by
  have h : allB 121 (fun n => decide (n = 0) || (decide ((facC n).length ≤ 5) && allB 6 fun i => decide (-8 ≤ prodL betF ((facC n).take i)) && decide (prodL betF ((facC n).take i) ≤ 8))) = true := by decide +kernel
  have := allB_at h (show n < 121 by omega)
  simp only [Bool.or_eq_true, Bool.and_eq_true, decide_eq_true_eq] at this
  obtain ⟨hl, hb⟩ := this.resolve_left (by omega)
  rw [facs_C h1 h2]
  by_cases hi : i < 6
  · have := allB_at hb hi
    simp only [Bool.and_eq_true, decide_eq_true_eq] at this
    exact this
  · have := allB_at hb (show 5 < 6 by omega)
    simp only [Bool.and_eq_true, decide_eq_true_eq] at this
    rw [List.take_of_length_le (by omega)] at this ⊢
    exact this
theorem bet_zero {l : List (Nat × Nat)} {i p e : Nat} (h : l[i]? = some (p, e)) (he : 2 < e) : prodL betF l = 0 := by
  have h2 := prodL_next betF h
  have h3 : betF p e = 0 := by unfold betF; rw [if_neg (by omega), if_neg (by omega)]
  rw [h3, Int.mul_zero] at h2
  conv => lhs; rw [← List.take_append_drop (i + 1) l]
  rw [prodL_append, h2, Int.zero_mul]
set_option maxHeartbeats 4000000 in
theorem beta_sp (n : Nat) (hn0 : 1 ≤ n) (hn : n ≤ 120) : Sp CX 36 [int .i64 n] (int .i64 (bet n)) := by
  obtain ⟨Z, len, hZ, hlen⟩ := zOf (facs n) (0, 0)
  have hll : len ≤ 1000 := by have := facs_len (n := n) (by omega); omega
  refine fn_sp (C := CX) [] [] tysX_ok mixed Tryd.func36 rfl (by kernel_rfl) Tryd.ntmps36 rfl rfl ?_
  repeat' (conv => whnf
           first
             | (refine Ob.mk (by (first | omega | (simp only [InK]; omega) | exact ⟨by omega, tdivIn (by omega) (by omega)⟩ | exact ⟨by first | omega | (simp only [InK]; omega), by first | omega | (simp only [InK]; omega)⟩)) ?_)
             | (refine Cases.yes (by (first | assumption | exact decide_eq_true (by first | assumption | omega) | exact congrArg (!·) (decide_eq_false (by first | assumption | omega)) | exact congrArg (!·) (show _ = false by assumption) | rfl)) ?_)
             | (refine Cases.no (by (first | assumption | exact decide_eq_false (by first | assumption | omega) | exact congrArg (!·) (decide_eq_true (by first | assumption | omega)) | exact congrArg (!·) (show _ = true by assumption) | rfl)) ?_)
             | (refine Idx.mk ⟨_, rfl, by first | assumption | omega, ?_⟩)
             | (refine Idx.mk ⟨0, rfl, by omega, ?_⟩)
             | (refine DrawOb.start ?_)
             | (refine TryF.fast rfl (by decide +kernel) (by kernel_rfl) ?_)
             | (refine TryF.next rfl ?_)
             | (refine TryF.other ?_)
             | (refine TryG.go rfl (by decide +kernel) (by kernel_rfl) ?_)
             | (refine TryG.next rfl ?_)
             | (refine Sp.call (factor_sp n Z len (fun i p e => hZ i (p, e)) hlen (by omega) (by omega)) (ArgsLe.refl _) rfl (AvLe.refl _) ?_))
  refine ⟨⟨Nat, fun i => ⟨[(3, int .i64 (prodL betF ((facs n).take i))), (13, .v (.c (.sl 2 (Nat × Nat) ppL Z len))), (14, int .i64 len), (15, int .i64 i)], [], 1⟩, fun i => i ≤ len, fun i => len - i, ⟨0, [], Nat.zero_le _, (by refine ⟨?_, ?_, rfl⟩ <;> repeat (first | exact TmE.nil | exact OwnE.nil | refine TmE.cons (by first | exact AvLe.refl _ | exact AvLe.int (by omega) | exact AvLe.bool (by first | rfl | assumption)) ?_ | refine OwnE.cons rfl (BlkLe.refl _) ?_ | refine OwnE.cons rfl BlkLe.zero ?_))⟩, ?_⟩⟩
  intro i hi
  by_cases hd : i < len
  · have hfi : (facs n)[i]? = some ((Z i).1, (Z i).2) := by
      have h := List.getElem?_eq_getElem (l := facs n) (i := i) (by omega)
      rw [h, hZ i _ h]
    have hst := prodL_next betF hfi
    have b0 := bet_small hn0 hn i
    have he := (facs_bounds (show 0 < n by omega) (List.mem_of_getElem? hfi)).2.2.1
    by_cases c1 : (Z i).2 = 1
    · have el : betF (Z i).1 (Z i).2 = -2 := by unfold betF; rw [if_pos c1]
      rw [el] at hst
      repeat' (conv => whnf
               first
                 | (refine Ob.mk (by (first | omega | (simp only [InK]; omega) | exact ⟨by omega, tdivIn (by omega) (by omega)⟩ | exact ⟨by first | omega | (simp only [InK]; omega), by first | omega | (simp only [InK]; omega)⟩)) ?_)
                 | (refine Cases.yes (by (first | assumption | exact decide_eq_true (by first | assumption | omega) | exact congrArg (!·) (decide_eq_false (by first | assumption | omega)) | exact congrArg (!·) (show _ = false by assumption) | rfl)) ?_)
                 | (refine Cases.no (by (first | assumption | exact decide_eq_false (by first | assumption | omega) | exact congrArg (!·) (decide_eq_true (by first | assumption | omega)) | exact congrArg (!·) (show _ = true by assumption) | rfl)) ?_)
                 | (refine Idx.mk ⟨_, rfl, by first | assumption | omega, ?_⟩)
                 | (refine Idx.mk ⟨0, rfl, by omega, ?_⟩)
                 | (refine DrawOb.start ?_)
                 | (refine TryF.fast rfl (by decide +kernel) (by kernel_rfl) ?_)
                 | (refine TryF.next rfl ?_)
                 | (refine TryF.other ?_)
                 | (refine TryG.go rfl (by decide +kernel) (by kernel_rfl) ?_)
                 | (refine TryG.next rfl ?_))
      exact ⟨i + 1, [], hd, by show len - (i + 1) < len - i; omega, (by refine ⟨?_, ?_, rfl⟩ <;> repeat (first | exact TmE.nil | exact OwnE.nil | refine TmE.cons (by first | exact AvLe.refl _ | exact AvLe.int (by omega) | exact AvLe.bool (by first | rfl | assumption)) ?_ | refine OwnE.cons rfl (BlkLe.refl _) ?_ | refine OwnE.cons rfl BlkLe.zero ?_))⟩
    · by_cases c2 : (Z i).2 = 2
      · have el : betF (Z i).1 (Z i).2 = 1 := by unfold betF; rw [if_neg c1, if_pos c2]
        rw [el, Int.mul_one] at hst
        repeat' (conv => whnf
                 first
                   | (refine Ob.mk (by (first | omega | (simp only [InK]; omega) | exact ⟨by omega, tdivIn (by omega) (by omega)⟩ | exact ⟨by first | omega | (simp only [InK]; omega), by first | omega | (simp only [InK]; omega)⟩)) ?_)
                   | (refine Cases.yes (by (first | assumption | exact decide_eq_true (by first | assumption | omega) | exact congrArg (!·) (decide_eq_false (by first | assumption | omega)) | exact congrArg (!·) (show _ = false by assumption) | rfl)) ?_)
                   | (refine Cases.no (by (first | assumption | exact decide_eq_false (by first | assumption | omega) | exact congrArg (!·) (decide_eq_true (by first | assumption | omega)) | exact congrArg (!·) (show _ = true by assumption) | rfl)) ?_)
                   | (refine Idx.mk ⟨_, rfl, by first | assumption | omega, ?_⟩)
                   | (refine Idx.mk ⟨0, rfl, by omega, ?_⟩)
                   | (refine DrawOb.start ?_)
                   | (refine TryF.fast rfl (by decide +kernel) (by kernel_rfl) ?_)
                   | (refine TryF.next rfl ?_)
                   | (refine TryF.other ?_)
                   | (refine TryG.go rfl (by decide +kernel) (by kernel_rfl) ?_)
                   | (refine TryG.next rfl ?_))
        exact ⟨i + 1, [], hd, by show len - (i + 1) < len - i; omega, (by refine ⟨?_, ?_, rfl⟩ <;> repeat (first | exact TmE.nil | exact OwnE.nil | refine TmE.cons (by first | exact AvLe.refl _ | exact AvLe.int (by omega) | exact AvLe.bool (by first | rfl | assumption)) ?_ | refine OwnE.cons rfl (BlkLe.refl _) ?_ | refine OwnE.cons rfl BlkLe.zero ?_))⟩
      · have hz := bet_zero hfi (by omega)
        repeat' (conv => whnf
                 first
                   | (refine Ob.mk (by (first | omega | (simp only [InK]; omega) | exact ⟨by omega, tdivIn (by omega) (by omega)⟩ | exact ⟨by first | omega | (simp only [InK]; omega), by first | omega | (simp only [InK]; omega)⟩)) ?_)
                   | (refine Cases.yes (by (first | assumption | exact decide_eq_true (by first | assumption | omega) | exact congrArg (!·) (decide_eq_false (by first | assumption | omega)) | exact congrArg (!·) (show _ = false by assumption) | rfl)) ?_)
                   | (refine Cases.no (by (first | assumption | exact decide_eq_false (by first | assumption | omega) | exact congrArg (!·) (decide_eq_true (by first | assumption | omega)) | exact congrArg (!·) (show _ = true by assumption) | rfl)) ?_)
                   | (refine Idx.mk ⟨_, rfl, by first | assumption | omega, ?_⟩)
                   | (refine Idx.mk ⟨0, rfl, by omega, ?_⟩)
                   | (refine DrawOb.start ?_)
                   | (refine TryF.fast rfl (by decide +kernel) (by kernel_rfl) ?_)
                   | (refine TryF.next rfl ?_)
                   | (refine TryF.other ?_)
                   | (refine TryG.go rfl (by decide +kernel) (by kernel_rfl) ?_)
                   | (refine TryG.next rfl ?_))
        refine ⟨⟨_, _, rfl, rfl, AvLe.int ?_⟩⟩
        exact hz.symm
  · obtain rfl : i = len := by omega
    repeat' (conv => whnf
             first
               | (refine Ob.mk (by (first | omega | (simp only [InK]; omega) | exact ⟨by omega, tdivIn (by omega) (by omega)⟩ | exact ⟨by first | omega | (simp only [InK]; omega), by first | omega | (simp only [InK]; omega)⟩)) ?_)
               | (refine Cases.yes (by (first | assumption | exact decide_eq_true (by first | assumption | omega) | exact congrArg (!·) (decide_eq_false (by first | assumption | omega)) | exact congrArg (!·) (show _ = false by assumption) | rfl)) ?_)
               | (refine Cases.no (by (first | assumption | exact decide_eq_false (by first | assumption | omega) | exact congrArg (!·) (decide_eq_true (by first | assumption | omega)) | exact congrArg (!·) (show _ = true by assumption) | rfl)) ?_)
               | (refine Idx.mk ⟨_, rfl, by first | assumption | omega, ?_⟩)
               | (refine Idx.mk ⟨0, rfl, by omega, ?_⟩)
               | (refine DrawOb.start ?_)
               | (refine TryF.fast rfl (by decide +kernel) (by kernel_rfl) ?_)
               | (refine TryF.next rfl ?_)
               | (refine TryF.other ?_)
               | (refine TryG.go rfl (by decide +kernel) (by kernel_rfl) ?_)
               | (refine TryG.next rfl ?_))
    refine ⟨⟨_, _, rfl, rfl, AvLe.int ?_⟩⟩
    rw [hlen, List.take_length]
    rfl
end Go.Proofs.YteamlpflgfmieaaDoor
