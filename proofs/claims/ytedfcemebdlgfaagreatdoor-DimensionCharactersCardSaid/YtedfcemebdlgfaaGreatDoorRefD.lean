/- The walk of the reference's Kronecker. -/
import Derived.Test.YtedfcemebdlgfaaGreatDoorRefC
import Derived.Test.YtedfcemebdlgfaaGreatDoorLawRecip
namespace Go.Proofs.YtedfcemebdlgfaaGreatDoor
open Go.RowKit HP

theorem tri_pow {s : Int} (h : Tri s) : ∀ k : Nat, Tri (s ^ k)
  | 0 => by rw [Int.pow_zero]; exact .inr (.inl rfl)
  | k + 1 => by rw [Int.pow_succ]; exact (tri_pow h k).mul h
/-- the product over a part of the factorization -/
def kpart (a : Int) (l : List (Nat × Nat)) : Int := prodL (fun p e => kr a p ^ e) l
theorem kpart_tri (a : Int) : ∀ l : List (Nat × Nat), (∀ x ∈ l, Prm x.1) → Tri (kpart a l)
  | [], _ => .inr (.inl rfl)
  | (_, e) :: l, h => (tri_pow (kr_tri (h _ (List.mem_cons_self ..)) a) e).mul (kpart_tri a l fun x hx => h x (List.mem_cons_of_mem _ hx))
theorem kpart_next (a : Int) {l : List (Nat × Nat)} {i p e : Nat} (h : l[i]? = some (p, e)) : kpart a (l.take (i + 1)) = kpart a (l.take i) * kr a p ^ e := by
  obtain ⟨hi, he⟩ := List.getElem?_eq_some_iff.1 h
  unfold kpart
  rw [List.take_succ_eq_append_getElem hi, he, prodL_append]
  simp [prodL]
theorem kpart_all (a : Int) {M : Nat} (hM : 0 < M) : kpart a (facs M) = jac a M := (ext_facs _ M hM).symm
theorem leg_yes {a : Int} {p : Nat} (h : a ^ ((p - 1) / 2) % (p : Int) = (p : Int) - 1) : leg a p = -1 := by unfold leg; rw [if_pos h]
theorem leg_no {a : Int} {p : Nat} (h : ¬ a ^ ((p - 1) / 2) % (p : Int) = (p : Int) - 1) : leg a p = a ^ ((p - 1) / 2) % (p : Int) := by unfold leg; rw [if_neg h]

theorem tri_of_bd {x : Int} (h1 : -1 ≤ x) (h2 : x ≤ 1) : Tri x := by unfold Tri; omega
theorem o_next {sg o S : Int} {a : Int} {l : List (Nat × Nat)} {i p e : Nat} (h : l[i]? = some (p, e)) (ho : o = sg * kpart a (l.take i)) (hS : S = kr a p) : o * S ^ e = sg * kpart a (l.take (i + 1)) := by
  rw [kpart_next a h, ho, hS]; grind

end Go.Proofs.YtedfcemebdlgfaaGreatDoor
