/- DedekindMultipliers: for every input the law returns true and each argument reads as it did. The frame of the statement; the walk is cMults. Conditions: those of the given row alone. -/
import Derived.Test.YthfnbpnplbbibaaFrame
import Derived.Test.YthfnbpnplbbibaaPkLwB
import Derived.Test.YthfnbpnplbbibaaDeCh
namespace Go.Proofs.Ythfnbpnplbbibaa.lawDedekindMultipliers
open Go.ChangeShapes Go.WideShapes Go.ChangeAt Go.RowKit Go.VG HP

theorem okWide_arr {P : Program} {w : World} {r : Reach} {base n : Nat} {t e : TypeId} {v : Value} (ht : P.underlying t = some (.array n e)) (h : Value.okWide P w r base t v) : ∃ cs, v = .agg cs ∧ cs.size = P.cellsOf t := by
  simp only [Value.okWide, ht] at h
  obtain ⟨cs, h1, h2, _⟩ := h
  exact ⟨cs, h1, h2⟩
set_option maxRecDepth 100000 in
theorem openV0 {H : Type} {enc : TypeId × Value → H} {w : World} {base : Nat} {sp : Nat → Bool} {held : Bool} {r : Reach} {b0 : Nat} {v : Value} {d : DataW H} {ps : List MemPlace}
    (hval : Value.okWide Try.prog w r b0 51 v) (hd : DataW.Trod enc Try.prog w base sp held 51 v d ps) :
    ∃ (x_0 : Int) (x_1 : Int) (x_2 : Int) (x_3 : Int), v = .agg #[.int .i64 x_0, .int .i64 x_1, .int .i64 x_2, .int .i64 x_3] ∧ d = .agg [.lit (.int .i64 x_0), .lit (.int .i64 x_1), .lit (.int .i64 x_2), .lit (.int .i64 x_3)] ∧ ps = [] ∧ (Lit.int .i64 x_0).wf = true ∧ (Lit.int .i64 x_1).wf = true ∧ (Lit.int .i64 x_2).wf = true ∧ (Lit.int .i64 x_3).wf = true := by
  have c0 : Try.prog.cellsOf 51 = 4 := by kernel_rfl
  have c1 : Try.prog.cellsOf 3 = 1 := by kernel_rfl
  obtain ⟨fuel, hf0⟩ := hd
  obtain ⟨cs, rfl, hcs⟩ := okWide_struct Try.underlying51 hval
  rw [c0] at hcs
  obtain ⟨cl⟩ := cs
  simp only [List.size_toArray] at hcs
  match cl, hcs with
  | [v0, v1, v2, v3], _ =>
  simp only [Value.cells] at hf0
  obtain ⟨ys, m, _, hx, _, hl, hf⟩ := Go.DataW.trod_struct Try.underlying51 hf0
  match ys, hl with
  | [y_0, y_1, y_2, y_3], _ =>
  have hy_0 := hf 0 _ rfl
  have hy_1 := hf 1 _ rfl
  have hy_2 := hf 2 _ rfl
  have hy_3 := hf 3 _ rfl
  simp [c0, c1] at hy_0 hy_1 hy_2 hy_3
  obtain ⟨x_0, ex_0, rfl, sx_0⟩ := Go.DataW.trod_int Try.underlying3 hy_0
  obtain ⟨x_1, ex_1, rfl, sx_1⟩ := Go.DataW.trod_int Try.underlying3 hy_1
  obtain ⟨x_2, ex_2, rfl, sx_2⟩ := Go.DataW.trod_int Try.underlying3 hy_2
  obtain ⟨x_3, ex_3, rfl, sx_3⟩ := Go.DataW.trod_int Try.underlying3 hy_3
  simp at hx ex_0 ex_1 ex_2 ex_3
  obtain ⟨rfl, rfl⟩ := hx
  subst ex_0 ex_1 ex_2 ex_3
  exact ⟨x_0, x_1, x_2, x_3, rfl, rfl, rfl, sx_0, sx_1, sx_2, sx_3⟩
set_option maxRecDepth 100000 in
theorem shutV0 {H : Type} {enc : TypeId × Value → H} {w : World} {base : Nat} {sp : Nat → Bool} {held : Bool} {x_0 : Int} {x_1 : Int} {x_2 : Int} {x_3 : Int} (sx_0 : (Lit.int .i64 x_0).wf = true) (sx_1 : (Lit.int .i64 x_1).wf = true) (sx_2 : (Lit.int .i64 x_2).wf = true) (sx_3 : (Lit.int .i64 x_3).wf = true) :
    DataW.Trod enc Try.prog w base sp held 51 (.agg #[.int .i64 x_0, .int .i64 x_1, .int .i64 x_2, .int .i64 x_3]) (.agg [.lit (.int .i64 x_0), .lit (.int .i64 x_1), .lit (.int .i64 x_2), .lit (.int .i64 x_3)]) [] := by
  have c0 : Try.prog.cellsOf 51 = 4 := by kernel_rfl
  have c1 : Try.prog.cellsOf 3 = 1 := by kernel_rfl
  exact ⟨3, by simp [DataW.trod, Value.cells, Try.underlying51, Try.underlying3, c0, c1, sx_0, sx_1, sx_2, sx_3, List.range, List.range.loop]⟩
set_option maxRecDepth 100000 in
theorem contract (H : Type) (enc : TypeId × Value → H) (W : World) (base : Nat) (args : Array Value) (ds gs : List (DataW H)) (before : List MemPlace)
    (hval : ∀ (j : Nat) t v, Try.f8.params[j]? = some t → args[j]? = some v → Value.okWide Try.prog W .any base t v)
    (hW : DataW.Whole enc Try.prog Try.f8.params.toList Rows.dedekindMultipliersSpec.vars false W args.toList ds gs before) (hL : laidMetH Try.prog Rows.dedekindMultipliersRow.laid W) :
    Calls Try.prog 8 args W fun e W' => ∃ v, e = .returned v ∧ Rows.dedekindMultipliersSpec.post enc Try.prog Try.f8 false true false false W args v W' := by
  have hW' := hW
  have hlt := hW.lt
  obtain ⟨p, q, hA0, hV, rfl, hfz, hnd⟩ := hW
  have hA : DataW.TrodAll enc Try.prog W 0 (fun _ => true) true Try.f8.params.toList args.toList ds p := hA0
  rw [Try.params8] at hA hval
  obtain ⟨v0, vs0, d0, ds0, p0, q0, hargs, rfl, rfl, h0, r0⟩ := trodAll_cons hA
  obtain ⟨v1, vs1, d1, ds1, p1, q1, rfl, rfl, rfl, h1, r1⟩ := trodAll_cons r0
  obtain ⟨v2, vs2, d2, ds2, p2, q2, rfl, rfl, rfl, h2, r2⟩ := trodAll_cons r1
  obtain ⟨rfl, rfl, rfl⟩ := trodAll_nil r2
  obtain rfl : args = #[v0, v1, v2] := Array.ext' hargs
  obtain ⟨rfl, rfl⟩ := trodVars_none hV
  obtain ⟨x0, rfl, rfl, rfl, wx0⟩ := open_int Try.underlying3 (hval 0 3 v0 rfl rfl) h0
  have h1c := h1
  obtain ⟨X1, l1, wX1, hat1⟩ := open_ints (hval 1 59 v1 rfl rfl) h1
  obtain ⟨x2_0, x2_1, x2_2, x2_3, rfl, rfl, rfl, wx2_0, wx2_1, wx2_2, wx2_3⟩ := openV0 (hval 2 51 v2 rfl rfl) h2
  clear hA0
  have bx0 := bounds_i64 wx0
  have bx2_0 := bounds_i64 wx2_0
  have bx2_1 := bounds_i64 wx2_1
  have bx2_2 := bounds_i64 wx2_2
  have bx2_3 := bounds_i64 wx2_3
  have walk := (cMults x0 X1 l1 wX1 x2_0 x2_1 x2_2 x2_3).calls (vs := [.int .i64 x0, v1, .agg #[.int .i64 x2_0, .int .i64 x2_1, .int .i64 x2_2, .int .i64 x2_3]]) (w := W) (fun w' hx => tabW_ext (tabW_of_laid hL) (heap_of_laid hL) hx.size fun k hk => hx.keep k hk fun h => h) (fun ρ w' hx => ⟨⟨rfl, rfl⟩, ⟨hat1 ρ w' hx, ⟨⟨[_, _, _, _], rfl, ⟨⟨rfl, rfl⟩, ⟨⟨rfl, rfl⟩, ⟨⟨rfl, rfl⟩, ⟨⟨rfl, rfl⟩, trivial⟩⟩⟩⟩⟩, trivial⟩⟩⟩)
  refine walk.mono fun e W' ⟨v, he, hg, hv⟩ => ?_
  obtain rfl : v = .bool true := (hv fun _ => undef).2
  subst he
  have t1 := Below.trod laidOutCh (by kernel_rfl) (of_decide_eq_true (by kernel_rfl)) h1c hg (fun x hx => hlt x (by simp [hx]))
  exact ⟨_, rfl, post_of_below' (pv := []) hW' (fun _ _ _ => trodAll_cons_mk (shut_bool Try.underlying4 _) trodAll_mk0) (trodAll_cons_mk (shut_int Try.underlying3 wx0) (trodAll_cons_mk (t1) (trodAll_cons_mk (shutV0 wx2_0 wx2_1 wx2_2 wx2_3) (trodAll_mk0)))) (fun _ _ => rfl) (by simp) hg⟩

theorem laid_met (os : Os) : laidMet Try.prog Rows.dedekindMultipliersRow.laid ((laidWorld os).forCall (fun _ _ => 0) ⟨#[], #[.int .i64 0, .slice none 0 0, .agg #[.int .i64 0, .int .i64 0, .int .i64 0, .int .i64 0]], []⟩).memory :=
  laidMet_of_run' 8 (by kernel_rfl) (by kernel_rfl)
theorem reads (os : Os) {H : Type} (enc : TypeId × Value → H) : ∃ places, DataW.whole enc Try.prog ((laidWorld os).forCall (fun _ _ => 0) ⟨#[], #[.int .i64 0, .slice none 0 0, .agg #[.int .i64 0, .int .i64 0, .int .i64 0, .int .i64 0]], []⟩).memory Try.f8.params.toList Rows.dedekindMultipliersSpec.vars false #[Value.int .i64 0, Value.slice none 0 0, Value.agg #[.int .i64 0, .int .i64 0, .int .i64 0, .int .i64 0]].toList 8 = some ([.lit (.int .i64 0), .nil, .agg [.lit (.int .i64 0), .lit (.int .i64 0), .lit (.int .i64 0), .lit (.int .i64 0)]], [], places) :=
  ⟨[], by kernel_rfl⟩

set_option maxRecDepth 100000 in
theorem lifted (os : Os) (started : os.Started) (H : Type) (enc : TypeId × Value → H) (F : Stop.Interp) :
    ReturnsInHanded {} Try.checked os 8 .any ((OpenSpec.ofChange Rows.dedekindMultipliersSpec).preRow enc Try.prog Try.f8 Rows.dedekindMultipliersRow.domain false Rows.dedekindMultipliersRow.laid) (((OpenSpec.ofChange Rows.dedekindMultipliersSpec).at F).post enc Try.prog Try.f8 false true false false) := by
  obtain ⟨places, hx⟩ := reads os enc
  refine returnsInHanded_of_row (C := Try.checked) (s := OpenSpec.ofChange Rows.dedekindMultipliersSpec) own started (by kernel_rfl) Try.func8
    (witness_row_at (enc := enc) (C := Try.checked) false (laidWorld os) #[.int .i64 0, .slice none 0 0, .agg #[.int .i64 0, .int .i64 0, .int .i64 0, .int .i64 0]] rfl (by kernel_rfl) (by kernel_rfl) (by kernel_rfl)
      (OpenSpec.preRow_of_cond 8 hx (by kernel_rfl) (fun k hk => by cases hk) (by kernel_rfl) (laid_met os))) ?_
  intro W base args ds gs before hval hW _ _ _ hL _ _
  exact contract H enc W base args ds gs before hval hW hL

theorem said : Rows.DedekindMultipliersSaid :=
  OpenClaim.holds_of_cond 8 Try.f8 rfl rfl rfl rfl rfl rfl rfl ⟨rfl, rfl, rfl, rfl, rfl⟩ rfl rfl rfl rfl rfl (by kernel_rfl) Try.func8 (by kernel_rfl)
    (of_decide_eq_true (by kernel_rfl)) (by unfold Func.isWrapper; first | (rw [if_pos (by decide +kernel)]; kernel_rfl) | (rw [if_neg (by decide +kernel)]; exact ⟨rfl, rfl⟩))
    (fun os started H enc _ F => by rw [OpenClaim.pre_eq_preRow]; exact lifted os started H enc F)
end Go.Proofs.Ythfnbpnplbbibaa.lawDedekindMultipliers
