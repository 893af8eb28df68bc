/- States in letters: the contracts of arith told anew. -/
import Derived.Test.YtedfcemebdlgfaaDoorVgT
import Derived.Test.YtedfcemebdlgfaaDoorAriI
import Derived.Test.YtedfcemebdlgfaaDoorAriT
import Derived.Test.YtedfcemebdlgfaaDoorAriS
import Derived.Test.YtedfcemebdlgfaaDoorAriB
namespace Go.Proofs.YtedfcemebdlgfaaDoor
open Go Go.RowKit Go.VG HP
noncomputable def CX : Ctx := ⟨Tryd.prog, TabW, tysX⟩
def ix (n : Int) : Leaf := .x (.int .i64 n)
def avx (v : Value) : AV := .v (.c (.x v))
theorem argsX {ρ : Nat → Value} {w : World} : ∀ {vals vs : List Value}, ArgsR (AV.at ρ w) (vals.map avx) vs → vs = vals
  | [], [], _ => rfl
  | _ :: _, _ :: _, ⟨h, k⟩ => by rw [show _ = _ from h.2, argsX k]
  | [], _ :: _, h => h.elim
  | _ :: _, [], h => h.elim
theorem drew_below (w : World) (m : Nat) : Below w.heap.size w (w.drewN m) := ⟨rfl, rfl, rfl, Nat.le_refl _, fun _ _ => rfl⟩
theorem callOk {f : FuncId} {fn : Func} (hf : Tryd.prog.funcs[f]? = some fn) (h1 : (fn.name == "runtime.NumGoroutine") = false) (h2 : fn.body.isNone = false) : CallOk CX.P f := ⟨fn, hf, h1, h2⟩
theorem gcd_sp (a b : Int) (ha1 : -9223372036854775808 ≤ a) (ha2 : a ≤ 9223372036854775807) (hb1 : -9223372036854775808 ≤ b) (hb2 : b ≤ 9223372036854775807) : Sp CX 67 [int .i64 a, int .i64 b] (int .i64 (gcdW a b)) :=
  .of_val (vs0 := [.int .i64 a, .int .i64 b]) (callOk Tryd.func67 (by kernel_rfl) (by kernel_rfl)) rfl (fun _ _ _ h => argsX h) (fun _ _ => ⟨rfl, rfl⟩) fun w _ => (gcd_any a b w ha1 ha2 hb1 hb2).mono fun _ _ ⟨h, m, e⟩ => ⟨h, e ▸ drew_below w m⟩
theorem psi_sp (N : Nat) (hN0 : 1 ≤ N) (hN : N ≤ 2147483647) : Sp CX 90 [int .i64 N] (.tup [.c (ix (psi N)), .c (ix 0)]) :=
  .of_val (vs0 := [.int .i64 N]) (v := .tuple #[.int .i64 (psi N), .int .i64 0]) (callOk Tryd.func90 (by kernel_rfl) (by kernel_rfl)) rfl (fun _ _ _ h => argsX h) (fun _ _ => ⟨_, rfl, ⟨rfl, rfl⟩, ⟨rfl, rfl⟩, trivial⟩) fun w _ => psi_any N w hN0 hN
theorem fund_sp (d : Int) : Sp CX 89 [int .i64 d] (.tup [.c (ix (fundOut d).1), .c (ix (fundOut d).2.1), .c (ix (fundOut d).2.2)]) :=
  .of_val (vs0 := [.int .i64 d]) (v := .tuple #[.int .i64 (fundOut d).1, .int .i64 (fundOut d).2.1, .int .i64 (fundOut d).2.2]) (callOk Tryd.func89 (by kernel_rfl) (by kernel_rfl)) rfl (fun _ _ _ h => argsX h) (fun _ _ => ⟨_, rfl, ⟨rfl, rfl⟩, ⟨rfl, rfl⟩, ⟨rfl, rfl⟩, trivial⟩) fun w _ => fund_any d w
end Go.Proofs.YtedfcemebdlgfaaDoor
