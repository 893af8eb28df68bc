/- States in letters: the contracts of arith told anew. -/
import Derived.Test.YtdjfndfkjbjcpaaGreatDoorVgT
import Derived.Test.YtdjfndfkjbjcpaaGreatDoorAriI
import Derived.Test.YtdjfndfkjbjcpaaGreatDoorAriT
import Derived.Test.YtdjfndfkjbjcpaaGreatDoorAriS
import Derived.Test.YtdjfndfkjbjcpaaGreatDoorAriB
namespace Go.Proofs.YtdjfndfkjbjcpaaGreatDoor
open Go Go.RowKit Go.VG HP
noncomputable def CX : Ctx := ⟨Tryz.prog, TabW, tysX⟩
def ix (n : Int) : Leaf := .x (.int .i64 n)
def avx (v : Value) : AV := .v (.c (.x v))
theorem argsX {ρ : Nat → Value} {w : World} : ∀ {vals vs : List Value}, ArgsR (AV.at ρ w) (vals.map avx) vs → vs = vals
  | [], [], _ => rfl
  | _ :: _, _ :: _, ⟨h, k⟩ => by rw [show _ = _ from h.2, argsX k]
  | [], _ :: _, h => h.elim
  | _ :: _, [], h => h.elim
theorem drew_below (w : World) (m : Nat) : Below w.heap.size w (w.drewN m) := ⟨rfl, rfl, rfl, Nat.le_refl _, fun _ _ => rfl⟩
theorem callOk {f : FuncId} {fn : Func} (hf : Tryz.prog.funcs[f]? = some fn) (h1 : (fn.name == "runtime.NumGoroutine") = false) (h2 : fn.body.isNone = false) : CallOk CX.P f := ⟨fn, hf, h1, h2⟩
theorem sl_of {O : Nat → Prop} {B g cap k n : Nat} {w w'' : World} {α : Type} {mk : α → Nat → Leaf} {Z : Nat → α} (hO : ∀ i, O i → i < B) (hg : B ≤ g) (hlt : g < w.heap.size) (hn : n ≤ cap) (hx : Ext O w w'')
    (hc : ∀ i j, i < n → j < k → ∃ u, w.cell? ⟨g, i * k + j, none⟩ = some u ∧ u.oneCell' = true ∧ ∀ ρ w, (mk (Z i) j).at ρ w u) (ρ' : Nat → Value) : (Leaf.sl k α mk Z n).at ρ' w'' (.slice (some ⟨g, 0, none⟩) n cap) := by
  refine ⟨_, cap, rfl, hn, fun h => (by cases h), fun g' off sp h => ?_⟩
  cases h
  refine ⟨rfl, fun i j hi hj => ?_⟩
  obtain ⟨u, h1, h2, h3⟩ := hc i j hi hj
  refine ⟨u, ?_, h2, fun r => h3 r w''⟩
  rw [Nat.zero_add]
  have := hx.keep g hlt fun h => by have := hO g h; omega
  unfold World.cell? at h1 ⊢
  rw [this]
  exact h1
theorem sl_nil {k : Nat} {α : Type} {mk : α → Nat → Leaf} {Z : Nat → α} {w : World} (ρ' : Nat → Value) : (Leaf.sl k α mk Z 0).at ρ' w (.slice none 0 0) := ⟨none, 0, rfl, Nat.le_refl _, fun _ => rfl, fun _ _ _ h => by cases h⟩
theorem kron_sp (a n : Int) (ha1 : -9223372036854775808 ≤ a) (ha2 : a ≤ 9223372036854775807) (hn1 : -9223372036854775808 ≤ n) (hn2 : n ≤ 9223372036854775807) : Sp CX 83 [int .i64 a, int .i64 n] (int .i64 (kro a n)) :=
  .of_val (vs0 := [.int .i64 a, .int .i64 n]) (callOk Tryz.func83 (by kernel_rfl) (by kernel_rfl)) rfl (fun _ _ _ h => argsX h) (fun _ _ => ⟨rfl, rfl⟩) fun w hG => (kronecker_any a n w ha1 ha2 hn1 hn2 hG).mono fun _ _ ⟨h, e⟩ => ⟨h, e ▸ Below.refl _ _⟩
theorem gcd_sp (a b : Int) (ha1 : -9223372036854775808 ≤ a) (ha2 : a ≤ 9223372036854775807) (hb1 : -9223372036854775808 ≤ b) (hb2 : b ≤ 9223372036854775807) : Sp CX 14 [int .i64 a, int .i64 b] (int .i64 (gcdW a b)) :=
  .of_val (vs0 := [.int .i64 a, .int .i64 b]) (callOk Tryz.func14 (by kernel_rfl) (by kernel_rfl)) rfl (fun _ _ _ h => argsX h) (fun _ _ => ⟨rfl, rfl⟩) fun w _ => (gcd_any a b w ha1 ha2 hb1 hb2).mono fun _ _ ⟨h, m, e⟩ => ⟨h, e ▸ drew_below w m⟩
theorem psi_sp (N : Nat) (hN0 : 1 ≤ N) (hN : N ≤ 2147483647) : Sp CX 33 [int .i64 N] (.tup [.c (ix (psi N)), .c (ix 0)]) :=
  .of_val (vs0 := [.int .i64 N]) (v := .tuple #[.int .i64 (psi N), .int .i64 0]) (callOk Tryz.func33 (by kernel_rfl) (by kernel_rfl)) rfl (fun _ _ _ h => argsX h) (fun _ _ => ⟨_, rfl, ⟨rfl, rfl⟩, ⟨rfl, rfl⟩, trivial⟩) fun w _ => psi_any N w hN0 hN
theorem fund_sp (d : Int) : Sp CX 32 [int .i64 d] (.tup [.c (ix (fundOut d).1), .c (ix (fundOut d).2.1), .c (ix (fundOut d).2.2)]) :=
  .of_val (vs0 := [.int .i64 d]) (v := .tuple #[.int .i64 (fundOut d).1, .int .i64 (fundOut d).2.1, .int .i64 (fundOut d).2.2]) (callOk Tryz.func32 (by kernel_rfl) (by kernel_rfl)) rfl (fun _ _ _ h => argsX h) (fun _ _ => ⟨_, rfl, ⟨rfl, rfl⟩, ⟨rfl, rfl⟩, ⟨rfl, rfl⟩, trivial⟩) fun w _ => fund_any d w
theorem divisors_sp (N : Nat) (Z : Nat → Nat) (len : Nat) (hZ : ∀ i x, (dvs N)[i]? = some x → Z i = x) (hl : len = (dvs N).length) (hN0 : 1 ≤ N) (hN : N ≤ 2147483647) : Sp CX 44 [int .i64 N] (.tup [.c (.sl 1 Nat (fun z _ => ix z) Z len), .c (ix 0)]) := by
  refine ⟨callOk Tryz.func44 (by kernel_rfl) (by kernel_rfl), rfl, fun O w vs hO _ ha => ?_⟩
  have e := argsX (vals := [.int .i64 N]) (ha (fun _ => undef) w (Ext.refl _ _))
  subst e
  refine (divisors_any N w hN0 hN).mono ?_
  rintro x w' ⟨v, rfl, hints, hb⟩
  refine ⟨_, rfl, hb, fun ρ' w'' hx => ⟨_, rfl, ?_, ⟨rfl, rfl⟩, trivial⟩⟩
  have hlen : (intL (dvs N)).length = (dvs N).length := by unfold intL; simp
  rw [hl]
  rcases hints with ⟨rfl, h0⟩ | ⟨g, cap, rfl, h1, h2, h3, h4, h5⟩
  · have : (dvs N).length = 0 := by rw [← hlen, h0]; rfl
    rw [this]
    exact ⟨rfl, sl_nil ρ'⟩
  · rw [← hlen]
    refine ⟨rfl, sl_of (fun i hi => (hO i hi).1) h3 h4 h1 hx (fun i j hi hj => ?_) ρ'⟩
    obtain rfl : j = 0 := by omega
    have hi' : i < (dvs N).length := by omega
    have hx' : (intL (dvs N))[i]? = some (((dvs N)[i] : Nat) : Int) := by unfold intL; simp [hi']
    refine ⟨.int .i64 ((dvs N)[i] : Nat), by rw [Nat.mul_one]; exact h5 i _ hx', rfl, fun r w => ?_⟩
    have hz := hZ i _ (List.getElem?_eq_getElem hi')
    simp only [hz]; exact rfl
end Go.Proofs.YtdjfndfkjbjcpaaGreatDoor
