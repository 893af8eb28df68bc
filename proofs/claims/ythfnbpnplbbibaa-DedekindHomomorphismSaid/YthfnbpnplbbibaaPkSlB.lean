/- Own texts joined: SlB, LwA. -/
import Derived.Test.YthfnbpnplbbibaaPkRfA
import Derived.Test.YthfnbpnplbbibaaPkNumS
import Derived.Test.YthfnbpnplbbibaaRfC
/- Words in S and T in letters: nearest, Factor, Abelian. -/
namespace HP
def nrZ (a : Int) (k : Nat) : Int := if (k : Int) < 2 * (a % k) then a % k - k else a % k
def nqZ (a c : Int) : Int := (a - nrZ a c.natAbs).tdiv c
theorem near_spec {a c : Int} (hc : c ≠ 0) : a = nqZ a c * c + nrZ a c.natAbs ∧ 2 * (nrZ a c.natAbs).natAbs ≤ c.natAbs := by
  have hk : (0 : Int) < c.natAbs := by omega
  have h1 := Int.emod_nonneg a (show (c.natAbs : Int) ≠ 0 by omega)
  have h2 := Int.emod_lt_of_pos a hk
  have hd : c ∣ a - nrZ a c.natAbs := by
    have hd1 : (c.natAbs : Int) ∣ a - a % (c.natAbs : Int) := ⟨a / (c.natAbs : Int), by have := Int.mul_ediv_add_emod a (c.natAbs : Int); omega⟩
    have hck : c ∣ (c.natAbs : Int) := Int.dvd_natAbs.2 (Int.dvd_refl c)
    unfold nrZ
    split
    · have e : a - (a % (c.natAbs : Int) - (c.natAbs : Int)) = (a - a % (c.natAbs : Int)) + (c.natAbs : Int) := by omega
      rw [e]
      exact Int.dvd_add (Int.dvd_trans hck hd1) hck
    · exact Int.dvd_trans hck hd1
  constructor
  · unfold nqZ
    rw [Int.tdiv_mul_cancel hd]
    omega
  · unfold nrZ
    split <;> omega
def stepM (m : Mx) : Mx := ⟨m.c, m.d, -(nrZ m.a m.c.natAbs), nqZ m.a m.c * m.d - m.b⟩
def itM (m : Mx) : Nat → Mx
  | 0 => m
  | n + 1 => stepM (itM m n)
def expM (m : Mx) (i : Nat) : Int := nqZ (itM m i).a (itM m i).c
def expL (m : Mx) : Nat → List Int
  | 0 => []
  | n + 1 => expL m n ++ [expM m n]
/-- the sizes of what is left -/
structure FacI (M : Mx) (n : Nat) : Prop where
  w : WordI M (itM M n) (expL M n)
  a : (itM M n).a.natAbs ≤ 1073741824
  b : (itM M n).b.natAbs ≤ 1073741824
  c : (itM M n).c.natAbs * 2 ^ n ≤ 1073741824
  d : (itM M n).d.natAbs ≤ 1073741824
theorem FacI.c' {M : Mx} {n : Nat} (h : FacI M n) : (itM M n).c.natAbs ≤ 1073741824 := by
  have := h.c
  have h2 : (itM M n).c.natAbs * 1 ≤ (itM M n).c.natAbs * 2 ^ n := Nat.mul_le_mul_left _ (Nat.pow_pos (by omega))
  omega
theorem FacI.step {M : Mx} {n : Nat} (h : FacI M n) (hc : (itM M n).c ≠ 0) : FacI M (n + 1) ∧ (itM M (n + 1)).c.natAbs < (itM M n).c.natAbs ∧ (expM M n).natAbs ≤ 1073741825 := by
  obtain ⟨n1, n2⟩ := near_spec (a := (itM M n).a) hc
  obtain ⟨b1, b2⟩ := word_bd h.w.one hc n1 n2 (B := 1073741824) (by omega) h.d
  have ha := h.a
  have hcc := h.c
  refine ⟨⟨h.w.step n1, h.c', h.d, ?_, b1⟩, ?_, ?_⟩
  · show (-(nrZ (itM M n).a (itM M n).c.natAbs)).natAbs * 2 ^ (n + 1) ≤ _
    rw [Int.natAbs_neg, Nat.pow_succ, Nat.mul_comm (2 ^ n) 2, ← Nat.mul_assoc]
    have : (nrZ (itM M n).a (itM M n).c.natAbs).natAbs * 2 * 2 ^ n ≤ (itM M n).c.natAbs * 2 ^ n := Nat.mul_le_mul_right _ (by omega)
    omega
  · show (-(nrZ (itM M n).a (itM M n).c.natAbs)).natAbs < _
    omega
  · show (nqZ (itM M n).a (itM M n).c).natAbs ≤ _
    omega
end HP
namespace Go.Proofs.Ythfnbpnplbbibaa
open Go Go.RowKit Go.VG HP
end Go.Proofs.Ythfnbpnplbbibaa

/- The laws of Dedekind sums in letters: the class of a word, the examples. -/
namespace HP
end HP
namespace Go.Proofs.Ythfnbpnplbbibaa
open Go Go.RowKit Go.VG HP
theorem sp_le {C : Ctx} {f : FuncId} {args args' : List AV} {r : AV} (h : Sp C f args r) (ha : ArgsLe args' args) : Sp C f args' r :=
  ⟨h.ok, h.cl, fun O w vs hO hG hv => h.w O w vs hO hG fun ρ w' hx => ha.args (hv ρ w' hx)⟩
theorem sameI0 : Sp CX 33 [.v (.agg iZ), .v (.agg iZ)] (bool true) := by
  have s := SameInt_sp 0 (by decide)
  exact sp_le s (.cons (.agg (.cons (.bool rfl) (.cons .nil .nil))) (.cons (.agg (.cons (.bool rfl) (.cons .nil .nil))) .nil))
theorem sameQ0 : Sp CX 15 [.v (.agg qZ), .v (.agg qZ)] (bool true) := by
  have s := sameI0
  refine fn_sp (C := CX) [] [] tysX_ok mixed Try.func15 rfl (by kernel_rfl) Try.ntmps15 rfl rfl ?_
  repeat' ((conv => whnf); first | refine Ob.g ?_ | refine WrOb.g ?_ | refine WrOb.u32 ?_ | refine WrOb.u64 ?_ | refine Cases.y ?_ | refine Cases.n ?_ | refine Idx.g rfl ?_ | refine Idx.z rfl ?_ | refine DrawOb.start ?_ | refine TryF.f ?_ | refine TryF.next rfl ?_ | refine TryF.other ?_ | refine TryA.g ?_ | refine TryA.next rfl ?_ | refine TryA.other ?_ | refine TryS.g ?_ | refine TryS.next rfl ?_ | refine TryS.other ?_ | refine TryG.g ?_ | refine TryG.next rfl ?_ | refine TryG.other ?_ | refine TryT.g ?_ | refine Sp.g (s) ?_)
  refine ⟨⟨_, _, rfl, rfl, ?_⟩⟩
  exact AvLe.refl _
theorem sR_13 : sR 1 3 = Rat.divInt 1 18 := by decide +kernel
theorem rad_aw : rad ⟨0, -1, 1, 1⟩ = 1 := by decide +kernel
theorem mul_aw : mulV ⟨0, -1, 1, 0⟩ (prs (fun _ => 1) (fun _ => 2) 1) = Rat.divInt 3 4 := by decide +kernel
theorem dvs_1 : dvs 1 = [1] := by decide +kernel
theorem QB.lit {n d : Int} (hd : d ≠ 0) (h1 : n.natAbs ≤ 1000) (h2 : d.natAbs ≤ 1000) : QB 1 (Rat.divInt n d) := QB.divInt hd (ln_i (by omega)) (ln_i (by omega))
theorem lit_two : LeafLe (.sl 1 Nat (fun i j => getL [.x (.int .i64 2)] (i * 1 + j)) id 1) (.sl 1 Int (fun z _ => ix z) (fun _ => 2) 1) := .sl fun i j hi hj => by
  obtain rfl : i = 0 := by omega
  obtain rfl : j = 0 := by omega
  exact .refl _
set_option maxHeartbeats 4000000 in
theorem daw_sp : Sp CX 12 [] (bool true) := by
  have s1 := Sum_ok 1 3 (by omega) (by omega) ⟨by omega, by omega⟩ (by decide)
  rw [sR_13] at s1
  have s2 := Phi_ok 0 (-1) 1 1 (by decide)
  rw [rad_aw] at s2
  have s3 := Mult_ok 1 (by omega) (by omega) (fun _ => 1) (fun _ => 2) 1 ⟨fun i x h => by
    rw [dvs_1] at h
    match i, h with
    | 0, h => simpa using h
    | i + 1, h => simp at h, by rw [dvs_1]; rfl⟩ 0 (-1) 1 0 (fun _ _ => ⟨by omega, by omega⟩) (mulO (fun _ => 1) (fun _ => 2) 1 0 (-1) 1 0)
    (.inr ⟨fun _ _ => ⟨show (-200 : Int) ≤ 2 by omega, show (2 : Int) ≤ 200 by omega⟩, .inr ⟨by decide, .inr ⟨by decide, .inr ⟨by decide, rfl⟩⟩⟩⟩)
  unfold mulO at s3
  rw [mul_aw] at s3
  have f1 := Frac_sp 1 18 (by omega) (by omega) (by omega) (by omega)
  have f2 := Frac_sp 3 4 (by omega) (by omega) (by omega) (by omega)
  have z := Z_sp 1 (by omega) (by omega)
  have r1 := SameRat_sp (Rat.divInt 1 18) ((QB.lit (by omega) (by omega) (by omega)).mono (by omega))
  have r2 := SameRat_sp (Rat.divInt 3 4) ((QB.lit (by omega) (by omega) (by omega)).mono (by omega))
  have i1 := SameInt_sp 1 (by decide)
  generalize Rat.divInt 1 18 = A at *
  generalize Rat.divInt 3 4 = B at *
  have s4 := sp_le s3 (.cons (.refl _) (.cons (.leaf lit_two) (.cons (.refl _) .nil)))
  clear s3
  refine fn_sp (C := CX) [] [] tysX_ok mixed Try.func12 rfl (by kernel_rfl) Try.ntmps12 rfl rfl ?_
  repeat' ((conv => whnf); first | refine Ob.g ?_ | refine WrOb.g ?_ | refine WrOb.u32 ?_ | refine WrOb.u64 ?_ | refine Cases.y ?_ | refine Cases.n ?_ | refine Idx.g rfl ?_ | refine Idx.z rfl ?_ | refine DrawOb.start ?_ | refine TryF.f ?_ | refine TryF.next rfl ?_ | refine TryF.other ?_ | refine TryA.g ?_ | refine TryA.next rfl ?_ | refine TryA.other ?_ | refine TryS.g ?_ | refine TryS.next rfl ?_ | refine TryS.other ?_ | refine TryG.g ?_ | refine TryG.next rfl ?_ | refine TryG.other ?_ | refine TryT.g ?_ | refine Sp.g (s1) ?_ | refine Sp.g (s2) ?_ | refine Sp.g (s4) ?_ | refine Sp.g (f1) ?_ | refine Sp.g (f2) ?_ | refine Sp.g (z) ?_ | refine Sp.g (r1) ?_ | refine Sp.g (r2) ?_ | refine Sp.g (i1) ?_)
  refine ⟨⟨_, _, rfl, rfl, ?_⟩⟩
  exact AvLe.refl _
end Go.Proofs.Ythfnbpnplbbibaa

