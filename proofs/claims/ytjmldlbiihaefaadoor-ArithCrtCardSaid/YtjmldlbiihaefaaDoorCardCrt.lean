/- ArithCrt: for every list of congruences the law returns true and the list reads as it did. The frame of the statement and its card; the walk is crt_law. Conditions: those of the given row alone. -/
import Derived.Test.YtjmldlbiihaefaaDoorCards
import Derived.Test.YtjmldlbiihaefaaDoorTie
import Derived.Test.YtjmldlbiihaefaaDoorFrame
import Derived.Test.YtjmldlbiihaefaaDoorLawCrt
import Derived.Deep.Slices
import Derived.Deep.Fields
namespace Go.Proofs.YtjmldlbiihaefaaDoor.lawArithCrt
open Go.ChangeShapes Go.WideShapes Go.ChangeAt Go.RowKit HP

theorem laidOut : laidOutB Tryd.prog = true := by kernel_rfl
theorem cells30 : Tryd.prog.cellsOf 30 = 2 := by kernel_rfl
theorem fields30 : ∃ f0 f1 : Field, Tryd.prog.underlying 30 = some (.struct #[f0, f1]) ∧ f0.offset = 0 ∧ f1.offset = 1 ∧ f0.type = 3 ∧ f1.type = 3 :=
  ⟨_, _, Tryd.underlying30, by kernel_rfl, by kernel_rfl, by kernel_rfl, by kernel_rfl⟩
theorem cells3 : Tryd.prog.cellsOf 3 = 1 := by kernel_rfl

/-- a list out of a fact for each index -/
theorem list_of {α : Type} {P : Nat → α → Prop} : ∀ n : Nat, (∀ i, i < n → ∃ x, P i x) → ∃ l : List α, l.length = n ∧ ∀ i x, l[i]? = some x → P i x
  | 0, _ => ⟨[], rfl, fun i x h => by simp at h⟩
  | n + 1, h => by
    obtain ⟨l, hl, hp⟩ := list_of n fun i hi => h i (by omega)
    obtain ⟨x, hx⟩ := h n (by omega)
    refine ⟨l ++ [x], by simp [hl], fun i y hy => ?_⟩
    by_cases hi : i < l.length
    · rw [List.getElem?_append_left hi] at hy
      exact hp i y hy
    · rw [List.getElem?_append_right (by omega)] at hy
      have h0 : i - l.length = 0 := by
        have := (List.getElem?_eq_some_iff.1 hy).1
        simp at this; omega
      rw [h0] at hy
      simp at hy
      subst hy
      have : i = n := by omega
      subst this; exact hx

set_option maxRecDepth 100000 in
/-- a slice of congruences, opened to its cells -/
theorem open_cgr {H : Type} {enc : TypeId × Value → H} {w : World} {spare : Nat → Bool} {held : Bool} {fuel : Nat} {cs : List Value} {x : DataW H × List MemPlace}
    (h : DataW.trod enc Tryd.prog w 0 spare held fuel 28 cs = some x) :
    cs = [.slice none 0 0] ∨ ∃ (a : Addr) (len cap : Nat) (l : List (Int × Int)), cs = [.slice (some a) len cap] ∧ cap ≤ maxLen ∧ len ≤ cap ∧ l.length = len ∧
      (0 < len → ∃ b off, a = ⟨b, off, none⟩ ∧ b < w.heap.size ∧ CgrAt w b off l) := by
  rcases Go.Deep.open_slice Tryd.underlying28 h with ⟨h0, _⟩ | ⟨a, len, cap, m, n, D, Pl, hcs, _, hl, hm, hmm, _, hi⟩
  · exact .inl h0
  · have hlm : len ≤ m := by rw [hmm]; split <;> omega
    obtain ⟨f0, f1, hu, o0, o1, t0, t1⟩ := fields30
    have key : ∀ i, i < len → ∃ x : Int × Int, w.cell? (a.add (i * 2)) = some (.int .i64 x.1) ∧ w.cell? (a.add (i * 2 + 1)) = some (.int .i64 x.2) := by
      intro i hil
      obtain ⟨cs', hc, ht⟩ := hi i (by omega)
      rw [cells30] at hc
      obtain ⟨_, hcl, hat⟩ := World.cells?_some hc
      obtain ⟨xs, n', _, _, _, hxl, hf⟩ := DataW.trod_struct hu ht
      have a0 := hat 0 (by omega)
      have a1 := hat 1 (by omega)
      rw [Go.Deep.add_add] at a0 a1
      match cs', hcl with
      | [c0, c1], _ =>
        have g0 := hf 0 f0 rfl
        have g1 := hf 1 f1 rfl
        rw [o0, t0, cells3] at g0
        rw [o1, t1, cells3] at g1
        obtain ⟨y0, hy0⟩ : ∃ y, xs[0]? = some y := ⟨xs[0]'(by simp [hxl]), List.getElem?_eq_getElem _⟩
        obtain ⟨y1, hy1⟩ : ∃ y, xs[1]? = some y := ⟨xs[1]'(by simp [hxl]), List.getElem?_eq_getElem _⟩
        obtain ⟨r, hr, _, _⟩ := DataW.trod_int Tryd.underlying3 (g0.trans hy0)
        obtain ⟨s, hs, _, _⟩ := DataW.trod_int Tryd.underlying3 (g1.trans hy1)
        simp at hr hs a0 a1
        subst hr hs
        exact ⟨(r, s), a0, a1⟩
    obtain ⟨l, hll, hlp⟩ := list_of len key
    refine .inr ⟨a, len, cap, l, hcs, hm, hl, hll, fun hpos => ?_⟩
    obtain ⟨x0, h0, _⟩ := key 0 hpos
    obtain ⟨b, off, spot⟩ := a
    have hspot : spot = none := by simpa [Addr.add] using World.cell?_spot h0
    subst hspot
    refine ⟨b, off, rfl, ?_, fun i r m hrm => ?_⟩
    · rw [add_plain] at h0
      exact Nat.lt_of_not_le fun hle => by
        have e : w.heap[b]? = none := by simpa using hle
        simp [World.cell?, e] at h0
    · obtain ⟨k0, k1⟩ := hlp i (r, m) hrm
      rw [add_plain] at k0 k1
      exact ⟨k0, k1⟩

set_option maxRecDepth 100000 in
theorem contract (H : Type) (enc : TypeId × Value → H) (W : World) (base : Nat) (args : Array Value) (ds gs : List (DataW H)) (before : List MemPlace)
    (hval : ∀ (j : Nat) t v, Tryd.f6.params[j]? = some t → args[j]? = some v → Value.okWide Tryd.prog W .any base t v)
    (hW : DataW.Whole enc Tryd.prog Tryd.f6.params.toList Rows.arithCrtSpec.vars false W args.toList ds gs before) (hL : laidMetH Tryd.prog Rows.arithCrtRow.laid W) :
    Calls Tryd.prog 6 args W fun e W' => ∃ v, e = .returned v ∧ Rows.arithCrtSpec.post enc Tryd.prog Tryd.f6 false true false false W args v W' := by
  have hW' := hW
  have hlt := hW.lt
  obtain ⟨p, q, hA0, hV, rfl, hfz, hnd⟩ := hW
  have hA : DataW.TrodAll enc Tryd.prog W 0 (fun _ => true) true Tryd.f6.params.toList args.toList ds p := hA0
  rw [Tryd.params6] at hA hval
  obtain ⟨v0, vs0, d0, ds0, p0, q0, hargs, rfl, rfl, h0, r0⟩ := trodAll_cons hA
  obtain ⟨rfl, rfl, rfl⟩ := trodAll_nil r0
  obtain rfl : args = #[v0] := Array.ext' hargs
  obtain ⟨rfl, rfl⟩ := trodVars_none hV
  obtain ⟨oa, len, cap, rfl⟩ := okWide_slice Tryd.underlying28 (hval 0 28 v0 rfl rfl)
  have h0' := h0
  obtain ⟨fuel, hf⟩ := h0
  have walk : Calls Tryd.prog 6 #[.slice oa len cap] W fun x w' => x = .returned (.bool true) ∧ Below W.heap.size W w' := by
    rcases open_cgr hf with hcs | ⟨a, len', cap', l, hcs, hm, hl, hll, hc⟩
    · simp [Value.cells] at hcs
      obtain ⟨rfl, rfl, rfl⟩ := hcs
      exact crt_law_nil W none 0 (tabW_of_laid hL) (heap_of_laid hL)
    · simp [Value.cells] at hcs
      obtain ⟨rfl, rfl, rfl⟩ := hcs
      rcases Nat.eq_zero_or_pos len with hz | hpos
      · subst hz
        exact crt_law_nil W (some a) cap (tabW_of_laid hL) (heap_of_laid hL)
      · obtain ⟨b, off, rfl, hb, hcg⟩ := hc hpos
        unfold maxLen at hm
        exact crt_law b off len cap l hll W hb hcg (by omega) (tabW_of_laid hL) (heap_of_laid hL)
  refine walk.mono fun e W' ⟨he, hg⟩ => ?_
  subst he
  clear hA0 hA r0 hf hfz hnd
  simp only [List.append_nil] at hW' hlt
  refine ⟨_, rfl, post_of_below' (pa := p0) (pv := []) hW' (fun _ _ _ => trodAll_cons_mk (shut_bool Tryd.underlying4 _) trodAll_mk0) ?_ (fun _ _ => rfl) (by simp) hg⟩
  have t0 := Below.trod laidOut (by kernel_rfl) (of_decide_eq_true (by kernel_rfl)) h0' hg hlt
  have t1 := trodAll_cons_mk t0 trodAll_mk0
  simpa [Rows.arithCrtSpec] using t1

theorem laid_met (os : Os) : laidMet Tryd.prog Rows.arithCrtRow.laid ((laidWorld os).forCall (fun _ _ => 0) ⟨#[], #[.slice none 0 0], []⟩).memory :=
  laidMet_of_run' 8 (by kernel_rfl) (by kernel_rfl)
theorem reads (os : Os) {H : Type} (enc : TypeId × Value → H) : ∃ places, DataW.whole enc Tryd.prog ((laidWorld os).forCall (fun _ _ => 0) ⟨#[], #[.slice none 0 0], []⟩).memory Tryd.f6.params.toList Rows.arithCrtSpec.vars false #[Value.slice none 0 0].toList 8 = some ([.nil], [], places) :=
  ⟨[], by kernel_rfl⟩

set_option maxRecDepth 100000 in
theorem lifted (os : Os) (started : os.Started) (H : Type) (enc : TypeId × Value → H) (F : Stop.Interp) :
    ReturnsInHanded {} Tryd.checked os 6 .any ((OpenSpec.ofChange Rows.arithCrtSpec).preRow enc Tryd.prog Tryd.f6 Rows.arithCrtRow.domain false Rows.arithCrtRow.laid) (((OpenSpec.ofChange Rows.arithCrtSpec).at F).post enc Tryd.prog Tryd.f6 false true false false) := by
  obtain ⟨places, hx⟩ := reads os enc
  refine returnsInHanded_of_row (C := Tryd.checked) (s := OpenSpec.ofChange Rows.arithCrtSpec) own started (by kernel_rfl) Tryd.func6
    (witness_row_at (enc := enc) (C := Tryd.checked) false (laidWorld os) #[.slice none 0 0] rfl (by kernel_rfl) (by kernel_rfl) (by kernel_rfl)
      (OpenSpec.preRow_of_cond 8 hx (by kernel_rfl) (fun k hk => by cases hk) (by kernel_rfl) (laid_met os))) ?_
  intro W base args ds gs before hval hW _ _ _ hL _ _
  exact contract H enc W base args ds gs before hval hW hL

theorem said : Rows.ArithCrtSaid :=
  OpenClaim.holds_of_cond 6 Tryd.f6 rfl rfl rfl rfl rfl rfl rfl ⟨rfl, rfl, rfl, rfl, rfl⟩ rfl rfl rfl rfl rfl (by kernel_rfl) Tryd.func6 (by kernel_rfl)
    (of_decide_eq_true (by kernel_rfl)) (by unfold Func.isWrapper; first | (rw [if_pos (by decide +kernel)]; kernel_rfl) | (rw [if_neg (by decide +kernel)]; exact ⟨rfl, rfl⟩))
    (fun os started H enc _ F => by rw [OpenClaim.pre_eq_preRow]; exact lifted os started H enc F)

theorem plain (f : FuncId) (fn : Func) (hf : Tryd.pinned.checked.prog.funcNamed "halfplane/halfplanelaw03.ArithCrt" = some f) (hfn : Tryd.pinned.checked.prog.funcs[f]? = some fn) :
    false = Tryd.pinned.checked.prog.looks [] ∧ ∀ (j : Nat) t, fn.params[j]? = some t → Tryd.pinned.checked.prog.wantsStandIn t = false := by
  obtain rfl : f = 6 := Option.some.inj ((show Tryd.prog.funcNamed "halfplane/halfplanelaw03.ArithCrt" = some 6 by kernel_rfl).symm.trans hf) |>.symm
  obtain rfl : fn = Tryd.f6 := (Option.some.inj (Tryd.func6.symm.trans hfn)).symm
  refine ⟨by kernel_rfl, fun j t ht => ?_⟩
  rw [Tryd.params6] at ht
  obtain rfl : t = 28 := by simpa using Array.mem_of_getElem? ht
  exact (show Tryd.prog.wantsStandIn 28 = false by kernel_rfl)

theorem card : Rows.ArithCrtCardSaid :=
  Claim7.holds_tied_plain_at .later [] _ _ _ _ said (fun _ h => by cases h) (by kernel_rfl) (fun _ h => by cases h) arithCrt_row_tie rfl ⟨rfl, rfl⟩ (by kernel_rfl) rfl plain (by kernel_rfl)
end Go.Proofs.YtjmldlbiihaefaaDoor.lawArithCrt
