/- DirichletMultiplies: for every input the law returns true and each argument reads as it did. The frame of the statement and its card; the walk is law_mult:b. Conditions: those of the given row alone. -/
import Derived.Test.YtagigjppbabpkaaDoorCards
import Derived.Test.YtagigjppbabpkaaDoorTie
import Derived.Test.YtagigjppbabpkaaDoorFrame
import Derived.Test.YtagigjppbabpkaaDoorPkDiLa
import Derived.Test.YtagigjppbabpkaaDoorDiCh
namespace Go.Proofs.YtagigjppbabpkaaDoor.lawDirichletMultiplies
open Go.ChangeShapes Go.WideShapes Go.ChangeAt Go.RowKit Go.VG HP

theorem okWide_arr {P : Program} {w : World} {r : Reach} {base n : Nat} {t e : TypeId} {v : Value} (ht : P.underlying t = some (.array n e)) (h : Value.okWide P w r base t v) : ∃ cs, v = .agg cs ∧ cs.size = P.cellsOf t := by
  simp only [Value.okWide, ht] at h
  obtain ⟨cs, h1, h2, _⟩ := h
  exact ⟨cs, h1, h2⟩
set_option maxRecDepth 100000 in
theorem openV0 {H : Type} {enc : TypeId × Value → H} {w : World} {base : Nat} {sp : Nat → Bool} {held : Bool} {r : Reach} {b0 : Nat} {v : Value} {d : DataW H} {ps : List MemPlace}
    (hval : Value.okWide Tryd.prog w r b0 54 v) (hd : DataW.Trod enc Tryd.prog w base sp held 54 v d ps) :
    ∃ (x_0 : Int) (x_1 : Int), v = .agg #[.int .i16 x_0, .int .i16 x_1] ∧ d = .agg [.lit (.int .i16 x_0), .lit (.int .i16 x_1)] ∧ ps = [] ∧ (Lit.int .i16 x_0).wf = true ∧ (Lit.int .i16 x_1).wf = true := by
  have c0 : Tryd.prog.cellsOf 54 = 2 := by kernel_rfl
  have c1 : Tryd.prog.cellsOf 53 = 1 := by kernel_rfl
  obtain ⟨fuel, hf0⟩ := hd
  obtain ⟨cs, rfl, hcs⟩ := okWide_arr Tryd.underlying54 hval
  rw [c0] at hcs
  obtain ⟨cl⟩ := cs
  simp only [List.size_toArray] at hcs
  match cl, hcs with
  | [v0, v1], _ =>
  simp only [Value.cells] at hf0
  obtain ⟨ys, m, _, hx, _, hl, hf⟩ := Go.DataW.trod_array Tryd.underlying54 hf0
  match ys, hl with
  | [y_0, y_1], _ =>
  have hy_0 := hf 0 (by omega)
  have hy_1 := hf 1 (by omega)
  simp [c1] at hy_0 hy_1
  obtain ⟨x_0, ex_0, rfl, sx_0⟩ := Go.DataW.trod_int Tryd.underlying53 hy_0
  obtain ⟨x_1, ex_1, rfl, sx_1⟩ := Go.DataW.trod_int Tryd.underlying53 hy_1
  simp at hx ex_0 ex_1
  obtain ⟨rfl, rfl⟩ := hx
  subst ex_0 ex_1
  exact ⟨x_0, x_1, rfl, rfl, rfl, sx_0, sx_1⟩
set_option maxRecDepth 100000 in
theorem shutV0 {H : Type} {enc : TypeId × Value → H} {w : World} {base : Nat} {sp : Nat → Bool} {held : Bool} {x_0 : Int} {x_1 : Int} (sx_0 : (Lit.int .i16 x_0).wf = true) (sx_1 : (Lit.int .i16 x_1).wf = true) :
    DataW.Trod enc Tryd.prog w base sp held 54 (.agg #[.int .i16 x_0, .int .i16 x_1]) (.agg [.lit (.int .i16 x_0), .lit (.int .i16 x_1)]) [] := by
  have c0 : Tryd.prog.cellsOf 54 = 2 := by kernel_rfl
  have c1 : Tryd.prog.cellsOf 53 = 1 := by kernel_rfl
  exact ⟨3, by simp [DataW.trod, Value.cells, Tryd.underlying54, Tryd.underlying53, c0, c1, sx_0, sx_1, List.range, List.range.loop]⟩
set_option maxRecDepth 100000 in
theorem contract (H : Type) (enc : TypeId × Value → H) (W : World) (base : Nat) (args : Array Value) (ds gs : List (DataW H)) (before : List MemPlace)
    (hval : ∀ (j : Nat) t v, Tryd.f7.params[j]? = some t → args[j]? = some v → Value.okWide Tryd.prog W .any base t v)
    (hW : DataW.Whole enc Tryd.prog Tryd.f7.params.toList Rows.dirichletMultipliesSpec.vars false W args.toList ds gs before) (hL : laidMetH Tryd.prog Rows.dirichletMultipliesRow.laid W) :
    Calls Tryd.prog 7 args W fun e W' => ∃ v, e = .returned v ∧ Rows.dirichletMultipliesSpec.post enc Tryd.prog Tryd.f7 false true false false W args v W' := by
  have hW' := hW
  have hlt := hW.lt
  obtain ⟨p, q, hA0, hV, rfl, hfz, hnd⟩ := hW
  have hA : DataW.TrodAll enc Tryd.prog W 0 (fun _ => true) true Tryd.f7.params.toList args.toList ds p := hA0
  rw [Tryd.params7] at hA hval
  obtain ⟨v0, vs0, d0, ds0, p0, q0, hargs, rfl, rfl, h0, r0⟩ := trodAll_cons hA
  obtain ⟨v1, vs1, d1, ds1, p1, q1, rfl, rfl, rfl, h1, r1⟩ := trodAll_cons r0
  obtain ⟨v2, vs2, d2, ds2, p2, q2, rfl, rfl, rfl, h2, r2⟩ := trodAll_cons r1
  obtain ⟨rfl, rfl, rfl⟩ := trodAll_nil r2
  obtain rfl : args = #[v0, v1, v2] := Array.ext' hargs
  obtain ⟨rfl, rfl⟩ := trodVars_none hV
  have h0c := h0
  obtain ⟨N0, X0, l0, wN0, hat0⟩ := open_chr (hval 0 33 v0 rfl rfl) h0
  obtain ⟨x1_0, x1_1, rfl, rfl, rfl, wx1_0, wx1_1⟩ := openV0 (hval 1 54 v1 rfl rfl) h1
  obtain ⟨x2, rfl, rfl, rfl, wx2⟩ := open_int Tryd.underlying55 (hval 2 55 v2 rfl rfl) h2
  clear hA0
  have bx1_0 := bounds_i16 wx1_0
  have bx1_1 := bounds_i16 wx1_1
  have bx2 := bounds_i8 wx2
  have walk := (law_mult N0 X0 l0 x1_0 x1_1 x2 bx1_0.1 bx1_0.2 bx1_1.1 bx1_1.2 bx2.1 bx2.2).calls (vs := [v0, .agg #[.int .i16 x1_0, .int .i16 x1_1], .int .i8 x2]) (w := W) (fun w' hx => tabW_ext (tabW_of_laid hL) (heap_of_laid hL) hx.size fun k hk => hx.keep k hk fun h => h) (fun ρ w' hx => ⟨hat0 ρ w' hx, ⟨⟨[_, _], rfl, ⟨⟨rfl, rfl⟩, ⟨⟨rfl, rfl⟩, trivial⟩⟩⟩, ⟨⟨rfl, rfl⟩, trivial⟩⟩⟩)
  refine walk.mono fun e W' ⟨v, he, hg, hv⟩ => ?_
  obtain rfl : v = .bool true := (hv fun _ => undef).2
  subst he
  have t0 := Below.trod laidOutCh (by kernel_rfl) (of_decide_eq_true (by kernel_rfl)) h0c hg (fun x hx => hlt x (by simp [hx]))
  exact ⟨_, rfl, post_of_below' (pv := []) hW' (fun _ _ _ => trodAll_cons_mk (shut_bool Tryd.underlying4 _) trodAll_mk0) (trodAll_cons_mk (t0) (trodAll_cons_mk (shutV0 wx1_0 wx1_1) (trodAll_cons_mk (shut_int Tryd.underlying55 wx2) (trodAll_mk0)))) (fun _ _ => rfl) (by simp) hg⟩

theorem laid_met (os : Os) : laidMet Tryd.prog Rows.dirichletMultipliesRow.laid ((laidWorld os).forCall (fun _ _ => 0) ⟨#[], #[.agg #[.int .i64 0, .slice none 0 0], .agg #[.int .i16 0, .int .i16 0], .int .i8 0], []⟩).memory :=
  laidMet_of_run' 8 (by kernel_rfl) (by kernel_rfl)
theorem reads (os : Os) {H : Type} (enc : TypeId × Value → H) : ∃ places, DataW.whole enc Tryd.prog ((laidWorld os).forCall (fun _ _ => 0) ⟨#[], #[.agg #[.int .i64 0, .slice none 0 0], .agg #[.int .i16 0, .int .i16 0], .int .i8 0], []⟩).memory Tryd.f7.params.toList Rows.dirichletMultipliesSpec.vars false #[Value.agg #[.int .i64 0, .slice none 0 0], Value.agg #[.int .i16 0, .int .i16 0], Value.int .i8 0].toList 8 = some ([.agg [.lit (.int .i64 0), .nil], .agg [.lit (.int .i16 0), .lit (.int .i16 0)], .lit (.int .i8 0)], [], places) :=
  ⟨[], by kernel_rfl⟩

set_option maxRecDepth 100000 in
theorem lifted (os : Os) (started : os.Started) (H : Type) (enc : TypeId × Value → H) (F : Stop.Interp) :
    ReturnsInHanded {} Tryd.checked os 7 .any ((OpenSpec.ofChange Rows.dirichletMultipliesSpec).preRow enc Tryd.prog Tryd.f7 Rows.dirichletMultipliesRow.domain false Rows.dirichletMultipliesRow.laid) (((OpenSpec.ofChange Rows.dirichletMultipliesSpec).at F).post enc Tryd.prog Tryd.f7 false true false false) := by
  obtain ⟨places, hx⟩ := reads os enc
  refine returnsInHanded_of_row (C := Tryd.checked) (s := OpenSpec.ofChange Rows.dirichletMultipliesSpec) own started (by kernel_rfl) Tryd.func7
    (witness_row_at (enc := enc) (C := Tryd.checked) false (laidWorld os) #[.agg #[.int .i64 0, .slice none 0 0], .agg #[.int .i16 0, .int .i16 0], .int .i8 0] rfl (by kernel_rfl) (by kernel_rfl) (by kernel_rfl)
      (OpenSpec.preRow_of_cond 8 hx (by kernel_rfl) (fun k hk => by cases hk) (by kernel_rfl) (laid_met os))) ?_
  intro W base args ds gs before hval hW _ _ _ hL _ _
  exact contract H enc W base args ds gs before hval hW hL

theorem said : Rows.DirichletMultipliesSaid :=
  OpenClaim.holds_of_cond 7 Tryd.f7 rfl rfl rfl rfl rfl rfl rfl ⟨rfl, rfl, rfl, rfl, rfl⟩ rfl rfl rfl rfl rfl (by kernel_rfl) Tryd.func7 (by kernel_rfl)
    (of_decide_eq_true (by kernel_rfl)) (by unfold Func.isWrapper; first | (rw [if_pos (by decide +kernel)]; kernel_rfl) | (rw [if_neg (by decide +kernel)]; exact ⟨rfl, rfl⟩))
    (fun os started H enc _ F => by rw [OpenClaim.pre_eq_preRow]; exact lifted os started H enc F)

theorem plain (f : FuncId) (fn : Func) (hf : Tryd.pinned.checked.prog.funcNamed "halfplane/halfplanelaw28.DirichletMultiplies" = some f) (hfn : Tryd.pinned.checked.prog.funcs[f]? = some fn) :
    false = Tryd.pinned.checked.prog.looks [] ∧ ∀ (j : Nat) t, fn.params[j]? = some t → Tryd.pinned.checked.prog.wantsStandIn t = false := by
  obtain rfl : f = 7 := Option.some.inj ((show Tryd.prog.funcNamed "halfplane/halfplanelaw28.DirichletMultiplies" = some 7 by kernel_rfl).symm.trans hf) |>.symm
  obtain rfl : fn = Tryd.f7 := (Option.some.inj (Tryd.func7.symm.trans hfn)).symm
  refine ⟨by kernel_rfl, fun j t ht => ?_⟩
  rw [Tryd.params7] at ht
  have ht' := Array.mem_of_getElem? ht
  simp at ht'
  rcases ht' with rfl | rfl | rfl
  · exact (show Tryd.prog.wantsStandIn 33 = false by kernel_rfl)
  · exact (show Tryd.prog.wantsStandIn 54 = false by kernel_rfl)
  · exact (show Tryd.prog.wantsStandIn 55 = false by kernel_rfl)

theorem card : Rows.DirichletMultipliesCardSaid :=
  Claim7.holds_tied_plain_at .later [] _ _ _ _ said (fun _ h => by cases h) (by kernel_rfl) (fun _ h => by cases h) dirichletMultiplies_row_tie rfl ⟨rfl, rfl⟩ (by kernel_rfl) rfl plain (by kernel_rfl)
end Go.Proofs.YtagigjppbabpkaaDoor.lawDirichletMultiplies
