/- TraceTerms: for every input the law returns true and each argument reads as it did. The frame of the statement and its card; the walk is law_tterms. Conditions: those of the given row alone. -/
import Derived.Test.YtdjfndfkjbjcpaaGreatDoorCards
import Derived.Test.YtdjfndfkjbjcpaaGreatDoorTie
import Derived.Test.YtdjfndfkjbjcpaaGreatDoorFrame
import Derived.Test.YtdjfndfkjbjcpaaGreatDoorPkRhC
namespace Go.Proofs.YtdjfndfkjbjcpaaGreatDoor.lawTraceTerms
open Go.ChangeShapes Go.WideShapes Go.ChangeAt Go.RowKit Go.VG HP

theorem okWide_arr {P : Program} {w : World} {r : Reach} {base n : Nat} {t e : TypeId} {v : Value} (ht : P.underlying t = some (.array n e)) (h : Value.okWide P w r base t v) : ∃ cs, v = .agg cs ∧ cs.size = P.cellsOf t := by
  simp only [Value.okWide, ht] at h
  obtain ⟨cs, h1, h2, _⟩ := h
  exact ⟨cs, h1, h2⟩
set_option maxRecDepth 100000 in
theorem openV0 {H : Type} {enc : TypeId × Value → H} {w : World} {base : Nat} {sp : Nat → Bool} {held : Bool} {r : Reach} {b0 : Nat} {v : Value} {d : DataW H} {ps : List MemPlace}
    (hval : Value.okWide Tryz.prog w r b0 23 v) (hd : DataW.Trod enc Tryz.prog w base sp held 23 v d ps) :
    ∃ (x_0 : Int) (x_1 : Int) (x_2 : Int), v = .agg #[.int .i64 x_0, .int .i64 x_1, .int .i64 x_2] ∧ d = .agg [.lit (.int .i64 x_0), .lit (.int .i64 x_1), .lit (.int .i64 x_2)] ∧ ps = [] ∧ (Lit.int .i64 x_0).wf = true ∧ (Lit.int .i64 x_1).wf = true ∧ (Lit.int .i64 x_2).wf = true := by
  have c0 : Tryz.prog.cellsOf 23 = 3 := by kernel_rfl
  have c1 : Tryz.prog.cellsOf 3 = 1 := by kernel_rfl
  obtain ⟨fuel, hf0⟩ := hd
  obtain ⟨cs, rfl, hcs⟩ := okWide_struct Tryz.underlying23 hval
  rw [c0] at hcs
  obtain ⟨cl⟩ := cs
  simp only [List.size_toArray] at hcs
  match cl, hcs with
  | [v0, v1, v2], _ =>
  simp only [Value.cells] at hf0
  obtain ⟨ys, m, _, hx, _, hl, hf⟩ := Go.DataW.trod_struct Tryz.underlying23 hf0
  match ys, hl with
  | [y_0, y_1, y_2], _ =>
  have hy_0 := hf 0 _ rfl
  have hy_1 := hf 1 _ rfl
  have hy_2 := hf 2 _ rfl
  simp [c1] at hy_0 hy_1 hy_2
  obtain ⟨x_0, ex_0, rfl, sx_0⟩ := Go.DataW.trod_int Tryz.underlying3 hy_0
  obtain ⟨x_1, ex_1, rfl, sx_1⟩ := Go.DataW.trod_int Tryz.underlying3 hy_1
  obtain ⟨x_2, ex_2, rfl, sx_2⟩ := Go.DataW.trod_int Tryz.underlying3 hy_2
  simp at hx ex_0 ex_1 ex_2
  obtain ⟨rfl, rfl⟩ := hx
  subst ex_0 ex_1 ex_2
  exact ⟨x_0, x_1, x_2, rfl, rfl, rfl, sx_0, sx_1, sx_2⟩
set_option maxRecDepth 100000 in
theorem shutV0 {H : Type} {enc : TypeId × Value → H} {w : World} {base : Nat} {sp : Nat → Bool} {held : Bool} {x_0 : Int} {x_1 : Int} {x_2 : Int} (sx_0 : (Lit.int .i64 x_0).wf = true) (sx_1 : (Lit.int .i64 x_1).wf = true) (sx_2 : (Lit.int .i64 x_2).wf = true) :
    DataW.Trod enc Tryz.prog w base sp held 23 (.agg #[.int .i64 x_0, .int .i64 x_1, .int .i64 x_2]) (.agg [.lit (.int .i64 x_0), .lit (.int .i64 x_1), .lit (.int .i64 x_2)]) [] := by
  have c0 : Tryz.prog.cellsOf 23 = 3 := by kernel_rfl
  have c1 : Tryz.prog.cellsOf 3 = 1 := by kernel_rfl
  exact ⟨3, by simp [DataW.trod, Value.cells, Tryz.underlying23, Tryz.underlying3, c0, c1, sx_0, sx_1, sx_2, List.range]⟩
set_option maxRecDepth 100000 in
theorem contract (H : Type) (enc : TypeId × Value → H) (W : World) (base : Nat) (args : Array Value) (ds gs : List (DataW H)) (before : List MemPlace)
    (hval : ∀ (j : Nat) t v, Tryz.f3.params[j]? = some t → args[j]? = some v → Value.okWide Tryz.prog W .any base t v)
    (hW : DataW.Whole enc Tryz.prog Tryz.f3.params.toList Rows.traceTermsSpec.vars false W args.toList ds gs before) (hL : laidMetH Tryz.prog Rows.traceTermsRow.laid W) :
    Calls Tryz.prog 3 args W fun e W' => ∃ v, e = .returned v ∧ Rows.traceTermsSpec.post enc Tryz.prog Tryz.f3 false true false false W args v W' := by
  have hW' := hW
  obtain ⟨p, q, hA0, hV, rfl, hfz, hnd⟩ := hW
  have hA : DataW.TrodAll enc Tryz.prog W 0 (fun _ => true) true Tryz.f3.params.toList args.toList ds p := hA0
  rw [Tryz.params3] at hA hval
  obtain ⟨v0, vs0, d0, ds0, p0, q0, hargs, rfl, rfl, h0, r0⟩ := trodAll_cons hA
  obtain ⟨v1, vs1, d1, ds1, p1, q1, rfl, rfl, rfl, h1, r1⟩ := trodAll_cons r0
  obtain ⟨rfl, rfl, rfl⟩ := trodAll_nil r1
  obtain rfl : args = #[v0, v1] := Array.ext' hargs
  obtain ⟨rfl, rfl⟩ := trodVars_none hV
  obtain ⟨x0_0, x0_1, x0_2, rfl, rfl, rfl, wx0_0, wx0_1, wx0_2⟩ := openV0 (hval 0 23 v0 rfl rfl) h0
  obtain ⟨x1, rfl, rfl, rfl, wx1⟩ := open_int Tryz.underlying3 (hval 1 3 v1 rfl rfl) h1
  clear hA0
  simp only [List.append_nil] at hW'
  have bx0_0 := bounds_i64 wx0_0
  have bx0_1 := bounds_i64 wx0_1
  have bx0_2 := bounds_i64 wx0_2
  have bx1 := bounds_i64 wx1
  have walk := (law_tterms x0_0 x0_1 x0_2 x1).calls (vs := [.agg #[.int .i64 x0_0, .int .i64 x0_1, .int .i64 x0_2], .int .i64 x1]) (w := W) (fun w' hx => tabW_ext (tabW_of_laid hL) (heap_of_laid hL) hx.size fun k hk => hx.keep k hk fun h => h) (fun _ _ _ => ⟨⟨[_, _, _], rfl, ⟨⟨rfl, rfl⟩, ⟨⟨rfl, rfl⟩, ⟨⟨rfl, rfl⟩, trivial⟩⟩⟩⟩, ⟨⟨rfl, rfl⟩, trivial⟩⟩)
  refine walk.mono fun e W' ⟨v, he, hg, hv⟩ => ?_
  obtain rfl : v = .bool true := (hv fun _ => undef).2
  subst he
  exact ⟨_, rfl, post_of_below (pa := []) (pv := []) hW' (fun _ _ _ => trodAll_cons_mk (shut_bool Tryz.underlying4 _) trodAll_mk0) (fun _ _ => trodAll_cons_mk (shutV0 wx0_0 wx0_1 wx0_2) (trodAll_cons_mk (shut_int Tryz.underlying3 wx1) (trodAll_mk0))) (fun _ _ => rfl) rfl hg⟩

theorem laid_met (os : Os) : laidMet Tryz.prog Rows.traceTermsRow.laid ((laidWorld os).forCall (fun _ _ => 0) ⟨#[], #[.agg #[.int .i64 0, .int .i64 0, .int .i64 0], .int .i64 0], []⟩).memory :=
  laidMet_of_run' 8 (by kernel_rfl) (by kernel_rfl)
theorem reads (os : Os) {H : Type} (enc : TypeId × Value → H) : ∃ places, DataW.whole enc Tryz.prog ((laidWorld os).forCall (fun _ _ => 0) ⟨#[], #[.agg #[.int .i64 0, .int .i64 0, .int .i64 0], .int .i64 0], []⟩).memory Tryz.f3.params.toList Rows.traceTermsSpec.vars false #[Value.agg #[.int .i64 0, .int .i64 0, .int .i64 0], Value.int .i64 0].toList 8 = some ([.agg [.lit (.int .i64 0), .lit (.int .i64 0), .lit (.int .i64 0)], .lit (.int .i64 0)], [], places) :=
  ⟨[], by kernel_rfl⟩

set_option maxRecDepth 100000 in
theorem lifted (os : Os) (started : os.Started) (H : Type) (enc : TypeId × Value → H) (F : Stop.Interp) :
    ReturnsInHanded {} Tryz.checked os 3 .any ((OpenSpec.ofChange Rows.traceTermsSpec).preRow enc Tryz.prog Tryz.f3 Rows.traceTermsRow.domain false Rows.traceTermsRow.laid) (((OpenSpec.ofChange Rows.traceTermsSpec).at F).post enc Tryz.prog Tryz.f3 false true false false) := by
  obtain ⟨places, hx⟩ := reads os enc
  refine returnsInHanded_of_row (C := Tryz.checked) (s := OpenSpec.ofChange Rows.traceTermsSpec) own started (by kernel_rfl) Tryz.func3
    (witness_row_at (enc := enc) (C := Tryz.checked) false (laidWorld os) #[.agg #[.int .i64 0, .int .i64 0, .int .i64 0], .int .i64 0] rfl (by kernel_rfl) (by kernel_rfl) (by kernel_rfl)
      (OpenSpec.preRow_of_cond 8 hx (by kernel_rfl) (fun k hk => by cases hk) (by kernel_rfl) (laid_met os))) ?_
  intro W base args ds gs before hval hW _ _ _ hL _ _
  exact contract H enc W base args ds gs before hval hW hL

theorem said : Rows.TraceTermsSaid :=
  OpenClaim.holds_of_cond 3 Tryz.f3 rfl rfl rfl rfl rfl rfl rfl ⟨rfl, rfl, rfl, rfl, rfl⟩ rfl rfl rfl rfl rfl (by kernel_rfl) Tryz.func3 (by kernel_rfl)
    (of_decide_eq_true (by kernel_rfl)) (by unfold Func.isWrapper; first | (rw [if_pos (by decide +kernel)]; kernel_rfl) | (rw [if_neg (by decide +kernel)]; exact ⟨rfl, rfl⟩))
    (fun os started H enc _ F => by rw [OpenClaim.pre_eq_preRow]; exact lifted os started H enc F)

theorem plain (f : FuncId) (fn : Func) (hf : Tryz.pinned.checked.prog.funcNamed "halfplane/halfplanelaw32.TraceTerms" = some f) (hfn : Tryz.pinned.checked.prog.funcs[f]? = some fn) :
    false = Tryz.pinned.checked.prog.looks [] ∧ ∀ (j : Nat) t, fn.params[j]? = some t → Tryz.pinned.checked.prog.wantsStandIn t = false := by
  obtain rfl : f = 3 := Option.some.inj ((show Tryz.prog.funcNamed "halfplane/halfplanelaw32.TraceTerms" = some 3 by kernel_rfl).symm.trans hf) |>.symm
  obtain rfl : fn = Tryz.f3 := (Option.some.inj (Tryz.func3.symm.trans hfn)).symm
  refine ⟨by kernel_rfl, fun j t ht => ?_⟩
  rw [Tryz.params3] at ht
  have ht' := Array.mem_of_getElem? ht
  simp at ht'
  rcases ht' with rfl | rfl
  · exact (show Tryz.prog.wantsStandIn 23 = false by kernel_rfl)
  · exact (show Tryz.prog.wantsStandIn 3 = false by kernel_rfl)

theorem card : Rows.TraceTermsCardSaid :=
  Claim7.holds_tied_plain_at .later [] _ _ _ _ said (fun _ h => by cases h) (by kernel_rfl) (fun _ h => by cases h) traceTerms_row_tie rfl ⟨rfl, rfl⟩ (by kernel_rfl) rfl plain (by kernel_rfl)
end Go.Proofs.YtdjfndfkjbjcpaaGreatDoor.lawTraceTerms
