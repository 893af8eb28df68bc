/- DedekindAbelian: for every input the law returns true and each argument reads as it did. The frame of the statement; the walk is law_abelian. Conditions: those of the given row alone. -/
import Derived.Test.YthfnbpnplbbibaaFrame
import Derived.Test.YthfnbpnplbbibaaPkLwB
namespace Go.Proofs.Ythfnbpnplbbibaa.lawDedekindAbelian
open Go.ChangeShapes Go.WideShapes Go.ChangeAt Go.RowKit Go.VG HP

theorem okWide_arr {P : Program} {w : World} {r : Reach} {base n : Nat} {t e : TypeId} {v : Value} (ht : P.underlying t = some (.array n e)) (h : Value.okWide P w r base t v) : ∃ cs, v = .agg cs ∧ cs.size = P.cellsOf t := by
  simp only [Value.okWide, ht] at h
  obtain ⟨cs, h1, h2, _⟩ := h
  exact ⟨cs, h1, h2⟩
set_option maxRecDepth 100000 in
theorem openV0 {H : Type} {enc : TypeId × Value → H} {w : World} {base : Nat} {sp : Nat → Bool} {held : Bool} {r : Reach} {b0 : Nat} {v : Value} {d : DataW H} {ps : List MemPlace}
    (hval : Value.okWide Try.prog w r b0 51 v) (hd : DataW.Trod enc Try.prog w base sp held 51 v d ps) :
    ∃ (x_0 : Int) (x_1 : Int) (x_2 : Int) (x_3 : Int), v = .agg #[.int .i64 x_0, .int .i64 x_1, .int .i64 x_2, .int .i64 x_3] ∧ d = .agg [.lit (.int .i64 x_0), .lit (.int .i64 x_1), .lit (.int .i64 x_2), .lit (.int .i64 x_3)] ∧ ps = [] ∧ (Lit.int .i64 x_0).wf = true ∧ (Lit.int .i64 x_1).wf = true ∧ (Lit.int .i64 x_2).wf = true ∧ (Lit.int .i64 x_3).wf = true := by
  have c0 : Try.prog.cellsOf 51 = 4 := by kernel_rfl
  have c1 : Try.prog.cellsOf 3 = 1 := by kernel_rfl
  obtain ⟨fuel, hf0⟩ := hd
  obtain ⟨cs, rfl, hcs⟩ := okWide_struct Try.underlying51 hval
  rw [c0] at hcs
  obtain ⟨cl⟩ := cs
  simp only [List.size_toArray] at hcs
  match cl, hcs with
  | [v0, v1, v2, v3], _ =>
  simp only [Value.cells] at hf0
  obtain ⟨ys, m, _, hx, _, hl, hf⟩ := Go.DataW.trod_struct Try.underlying51 hf0
  match ys, hl with
  | [y_0, y_1, y_2, y_3], _ =>
  have hy_0 := hf 0 _ rfl
  have hy_1 := hf 1 _ rfl
  have hy_2 := hf 2 _ rfl
  have hy_3 := hf 3 _ rfl
  simp [c1] at hy_0 hy_1 hy_2 hy_3
  obtain ⟨x_0, ex_0, rfl, sx_0⟩ := Go.DataW.trod_int Try.underlying3 hy_0
  obtain ⟨x_1, ex_1, rfl, sx_1⟩ := Go.DataW.trod_int Try.underlying3 hy_1
  obtain ⟨x_2, ex_2, rfl, sx_2⟩ := Go.DataW.trod_int Try.underlying3 hy_2
  obtain ⟨x_3, ex_3, rfl, sx_3⟩ := Go.DataW.trod_int Try.underlying3 hy_3
  simp at hx ex_0 ex_1 ex_2 ex_3
  obtain ⟨rfl, rfl⟩ := hx
  subst ex_0 ex_1 ex_2 ex_3
  exact ⟨x_0, x_1, x_2, x_3, rfl, rfl, rfl, sx_0, sx_1, sx_2, sx_3⟩
set_option maxRecDepth 100000 in
theorem shutV0 {H : Type} {enc : TypeId × Value → H} {w : World} {base : Nat} {sp : Nat → Bool} {held : Bool} {x_0 : Int} {x_1 : Int} {x_2 : Int} {x_3 : Int} (sx_0 : (Lit.int .i64 x_0).wf = true) (sx_1 : (Lit.int .i64 x_1).wf = true) (sx_2 : (Lit.int .i64 x_2).wf = true) (sx_3 : (Lit.int .i64 x_3).wf = true) :
    DataW.Trod enc Try.prog w base sp held 51 (.agg #[.int .i64 x_0, .int .i64 x_1, .int .i64 x_2, .int .i64 x_3]) (.agg [.lit (.int .i64 x_0), .lit (.int .i64 x_1), .lit (.int .i64 x_2), .lit (.int .i64 x_3)]) [] := by
  have c0 : Try.prog.cellsOf 51 = 4 := by kernel_rfl
  have c1 : Try.prog.cellsOf 3 = 1 := by kernel_rfl
  exact ⟨3, by simp [DataW.trod, Value.cells, Try.underlying51, Try.underlying3, c0, c1, sx_0, sx_1, sx_2, sx_3, List.range]⟩
set_option maxRecDepth 100000 in
theorem contract (H : Type) (enc : TypeId × Value → H) (W : World) (base : Nat) (args : Array Value) (ds gs : List (DataW H)) (before : List MemPlace)
    (hval : ∀ (j : Nat) t v, Try.f11.params[j]? = some t → args[j]? = some v → Value.okWide Try.prog W .any base t v)
    (hW : DataW.Whole enc Try.prog Try.f11.params.toList Rows.dedekindAbelianSpec.vars false W args.toList ds gs before) (hL : laidMetH Try.prog Rows.dedekindAbelianRow.laid W) :
    Calls Try.prog 11 args W fun e W' => ∃ v, e = .returned v ∧ Rows.dedekindAbelianSpec.post enc Try.prog Try.f11 false true false false W args v W' := by
  have hW' := hW
  obtain ⟨p, q, hA0, hV, rfl, hfz, hnd⟩ := hW
  have hA : DataW.TrodAll enc Try.prog W 0 (fun _ => true) true Try.f11.params.toList args.toList ds p := hA0
  rw [Try.params11] at hA hval
  obtain ⟨v0, vs0, d0, ds0, p0, q0, hargs, rfl, rfl, h0, r0⟩ := trodAll_cons hA
  obtain ⟨rfl, rfl, rfl⟩ := trodAll_nil r0
  obtain rfl : args = #[v0] := Array.ext' hargs
  obtain ⟨rfl, rfl⟩ := trodVars_none hV
  obtain ⟨x0_0, x0_1, x0_2, x0_3, rfl, rfl, rfl, wx0_0, wx0_1, wx0_2, wx0_3⟩ := openV0 (hval 0 51 v0 rfl rfl) h0
  clear hA0
  simp only [List.append_nil] at hW'
  have bx0_0 := bounds_i64 wx0_0
  have bx0_1 := bounds_i64 wx0_1
  have bx0_2 := bounds_i64 wx0_2
  have bx0_3 := bounds_i64 wx0_3
  have walk := (law_abelian x0_0 x0_1 x0_2 x0_3).calls (vs := [.agg #[.int .i64 x0_0, .int .i64 x0_1, .int .i64 x0_2, .int .i64 x0_3]]) (w := W) (fun w' hx => tabW_ext (tabW_of_laid hL) (heap_of_laid hL) hx.size fun k hk => hx.keep k hk fun h => h) (fun _ _ _ => ⟨⟨[_, _, _, _], rfl, ⟨⟨rfl, rfl⟩, ⟨⟨rfl, rfl⟩, ⟨⟨rfl, rfl⟩, ⟨⟨rfl, rfl⟩, trivial⟩⟩⟩⟩⟩, trivial⟩)
  refine walk.mono fun e W' ⟨v, he, hg, hv⟩ => ?_
  obtain rfl : v = .bool true := (hv fun _ => undef).2
  subst he
  exact ⟨_, rfl, post_of_below (pa := []) (pv := []) hW' (fun _ _ _ => trodAll_cons_mk (shut_bool Try.underlying4 _) trodAll_mk0) (fun _ _ => trodAll_cons_mk (shutV0 wx0_0 wx0_1 wx0_2 wx0_3) (trodAll_mk0)) (fun _ _ => rfl) rfl hg⟩

theorem laid_met (os : Os) : laidMet Try.prog Rows.dedekindAbelianRow.laid ((laidWorld os).forCall (fun _ _ => 0) ⟨#[], #[.agg #[.int .i64 0, .int .i64 0, .int .i64 0, .int .i64 0]], []⟩).memory :=
  laidMet_of_run' 8 (by kernel_rfl) (by kernel_rfl)
theorem reads (os : Os) {H : Type} (enc : TypeId × Value → H) : ∃ places, DataW.whole enc Try.prog ((laidWorld os).forCall (fun _ _ => 0) ⟨#[], #[.agg #[.int .i64 0, .int .i64 0, .int .i64 0, .int .i64 0]], []⟩).memory Try.f11.params.toList Rows.dedekindAbelianSpec.vars false #[Value.agg #[.int .i64 0, .int .i64 0, .int .i64 0, .int .i64 0]].toList 8 = some ([.agg [.lit (.int .i64 0), .lit (.int .i64 0), .lit (.int .i64 0), .lit (.int .i64 0)]], [], places) :=
  ⟨[], by kernel_rfl⟩

set_option maxRecDepth 100000 in
theorem lifted (os : Os) (started : os.Started) (H : Type) (enc : TypeId × Value → H) (F : Stop.Interp) :
    ReturnsInHanded {} Try.checked os 11 .any ((OpenSpec.ofChange Rows.dedekindAbelianSpec).preRow enc Try.prog Try.f11 Rows.dedekindAbelianRow.domain false Rows.dedekindAbelianRow.laid) (((OpenSpec.ofChange Rows.dedekindAbelianSpec).at F).post enc Try.prog Try.f11 false true false false) := by
  obtain ⟨places, hx⟩ := reads os enc
  refine returnsInHanded_of_row (C := Try.checked) (s := OpenSpec.ofChange Rows.dedekindAbelianSpec) own started (by kernel_rfl) Try.func11
    (witness_row_at (enc := enc) (C := Try.checked) false (laidWorld os) #[.agg #[.int .i64 0, .int .i64 0, .int .i64 0, .int .i64 0]] rfl (by kernel_rfl) (by kernel_rfl) (by kernel_rfl)
      (OpenSpec.preRow_of_cond 8 hx (by kernel_rfl) (fun k hk => by cases hk) (by kernel_rfl) (laid_met os))) ?_
  intro W base args ds gs before hval hW _ _ _ hL _ _
  exact contract H enc W base args ds gs before hval hW hL

theorem said : Rows.DedekindAbelianSaid :=
  OpenClaim.holds_of_cond 11 Try.f11 rfl rfl rfl rfl rfl rfl rfl ⟨rfl, rfl, rfl, rfl, rfl⟩ rfl rfl rfl rfl rfl (by kernel_rfl) Try.func11 (by kernel_rfl)
    (of_decide_eq_true (by kernel_rfl)) (by unfold Func.isWrapper; first | (rw [if_pos (by decide +kernel)]; kernel_rfl) | (rw [if_neg (by decide +kernel)]; exact ⟨rfl, rfl⟩))
    (fun os started H enc _ F => by rw [OpenClaim.pre_eq_preRow]; exact lifted os started H enc F)
end Go.Proofs.Ythfnbpnplbbibaa.lawDedekindAbelian
