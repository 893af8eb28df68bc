/- Own texts joined: DmK, DmL, DmM. -/
import Derived.Test.YtedfcemebdlgfaaGreatDoorPkDmH
/- Signatures: their checks and dimensions, on both sides. -/
namespace Go.Proofs.YtedfcemebdlgfaaGreatDoor
open Go Go.RowKit Go.VG HP
def sigA (I G N2 N3 C R : Int) (M : Bool) : AV := .v (.agg [ix I, ix G, ix N2, ix N3, ix C, ix R, .x (.bool M)])
def six (I G N2 N3 C R : Int) : Prop := (0 ≤ I ∧ I ≤ 10000) ∧ (0 ≤ G ∧ G ≤ 10000) ∧ (0 ≤ N2 ∧ N2 ≤ 10000) ∧ (0 ≤ N3 ∧ N3 ≤ 10000) ∧ (0 ≤ C ∧ C ≤ 10000) ∧ (0 ≤ R ∧ R ≤ 10000)
instance (I G N2 N3 C R : Int) : Decidable (six I G N2 N3 C R) := by unfold six; infer_instance
def formB (I G N2 N3 C R : Int) (M : Bool) : Prop := C < R ∨ (M = true ∧ 0 < R) ∨ (M = false ∧ (0 < N2 ∨ (C - R) % 2 ≠ 0)) ∨ 12 * G ≠ 12 + I - 3 * N2 - 4 * N3 - 6 * C
instance (I G N2 N3 C R : Int) (M : Bool) : Decidable (formB I G N2 N3 C R M) := by unfold formB; infer_instance
/-- the error of a signature and a weight -/
def csig (I G N2 N3 C R : Int) (M : Bool) (K : Int) : Int :=
  if K < 2 ∨ 24 < K then 2 else if ¬ six I G N2 N3 C R then 3 else if formB I G N2 N3 C R M then 3 else if M = true ∧ K % 2 = 1 then 16 else 0
section
variable {I G N2 N3 C R K : Int} {M : Bool}
theorem csig_range (h : K < 2 ∨ 24 < K) : csig I G N2 N3 C R M K = 2 := by unfold csig; rw [if_pos h]
theorem csig_six (h : ¬ (K < 2 ∨ 24 < K)) (h2 : ¬ six I G N2 N3 C R) : csig I G N2 N3 C R M K = 3 := by unfold csig; rw [if_neg h, if_pos h2]
theorem csig_form (h : ¬ (K < 2 ∨ 24 < K)) (h2 : six I G N2 N3 C R) (h3 : formB I G N2 N3 C R M) : csig I G N2 N3 C R M K = 3 := by unfold csig; rw [if_neg h, if_neg (fun x => x h2), if_pos h3]
theorem csig_par (h : ¬ (K < 2 ∨ 24 < K)) (h2 : six I G N2 N3 C R) (h3 : ¬ formB I G N2 N3 C R M) (h4 : M = true ∧ K % 2 = 1) : csig I G N2 N3 C R M K = 16 := by unfold csig; rw [if_neg h, if_neg (fun x => x h2), if_neg h3, if_pos h4]
theorem csig_ok (h : ¬ (K < 2 ∨ 24 < K)) (h2 : six I G N2 N3 C R) (h3 : ¬ formB I G N2 N3 C R M) (h4 : ¬ (M = true ∧ K % 2 = 1)) : csig I G N2 N3 C R M K = 0 := by unfold csig; rw [if_neg h, if_neg (fun x => x h2), if_neg h3, if_neg h4]
theorem csig_out (h : csig I G N2 N3 C R M K = 0) : ¬ (K < 2 ∨ 24 < K) ∧ six I G N2 N3 C R ∧ ¬ formB I G N2 N3 C R M ∧ ¬ (M = true ∧ K % 2 = 1) := by
  unfold csig at h
  split at h
  · cases h
  next h1 =>
  split at h
  · cases h
  next h2 =>
  split at h
  · cases h
  next h3 =>
  split at h
  · cases h
  next h4 => exact ⟨h1, Decidable.of_not_not h2, h3, h4⟩
theorem not_form (h1 : ¬ C < R) (h2 : M = true → ¬ 0 < R) (h3 : M = false → ¬ 0 < N2 ∧ (C - R) % 2 = 0) (h4 : 12 * G = 12 + I - 3 * N2 - 4 * N3 - 6 * C) : ¬ formB I G N2 N3 C R M := by
  rintro (h | ⟨a, b⟩ | ⟨a, b⟩ | h)
  · exact h1 h
  · exact h2 a b
  · rcases b with b | b
    · exact (h3 a).1 b
    · exact b (h3 a).2
  · exact h h4
end
set_option maxHeartbeats 8000000 in
theorem csigm_sp (I G N2 N3 C R : Int) (M : Bool) (K : Int) : Sp CX 59 [sigA I G N2 N3 C R M, int .i64 K] (int .i64 (csig I G N2 N3 C R M K)) := by
  refine fn_sp (C := CX) [] [] tysX_ok mixed Tryz.func59 rfl (by kernel_rfl) Tryz.ntmps59 rfl rfl ?_
  by_cases k0 : K < 2
  · repeat' ((conv => whnf); first | refine Ob.g ?_ | refine Cases.y ?_ | refine Cases.n ?_ | refine Idx.g rfl ?_ | refine Idx.z rfl ?_ | refine DrawOb.start ?_ | refine TryF.f ?_ | refine TryF.next rfl ?_ | refine TryF.other ?_ | refine TryA.g ?_ | refine TryA.next rfl ?_ | refine TryA.other ?_ | refine TryS.g ?_ | refine TryS.next rfl ?_ | refine TryS.other ?_ | refine TryG.g ?_ | refine TryG.next rfl ?_)
    refine ⟨⟨_, _, rfl, rfl, AvLe.int ?_⟩⟩
    exact (csig_range (.inl k0)).symm
  by_cases k1 : 24 < K
  · repeat' ((conv => whnf); first | refine Ob.g ?_ | refine Cases.y ?_ | refine Cases.n ?_ | refine Idx.g rfl ?_ | refine Idx.z rfl ?_ | refine DrawOb.start ?_ | refine TryF.f ?_ | refine TryF.next rfl ?_ | refine TryF.other ?_ | refine TryA.g ?_ | refine TryA.next rfl ?_ | refine TryA.other ?_ | refine TryS.g ?_ | refine TryS.next rfl ?_ | refine TryS.other ?_ | refine TryG.g ?_ | refine TryG.next rfl ?_)
    refine ⟨⟨_, _, rfl, rfl, AvLe.int ?_⟩⟩
    exact (csig_range (.inr k1)).symm
  have hk : ¬ (K < 2 ∨ 24 < K) := by omega
  repeat' ((conv => whnf); first | refine Ob.g ?_ | refine Cases.y ?_ | refine Cases.n ?_ | refine Idx.g rfl ?_ | refine Idx.z rfl ?_ | refine DrawOb.start ?_ | refine TryF.f ?_ | refine TryF.next rfl ?_ | refine TryF.other ?_ | refine TryA.g ?_ | refine TryA.next rfl ?_ | refine TryA.other ?_ | refine TryS.g ?_ | refine TryS.next rfl ?_ | refine TryS.other ?_ | refine TryG.g ?_ | refine TryG.next rfl ?_)
  refine ⟨⟨Nat, fun i => ⟨[(1, int .i64 K), (2, .v (.c (.loc 0 0))), (25, .v (.agg [ix I, ix G, ix N2, ix N3, ix C, ix R])), (26, int .i64 i)], [(0, .st [ix I, ix G, ix N2, ix N3, ix C, ix R, .x (.bool M)])], 1⟩, fun i => i ≤ 6 ∧ (0 < i → 0 ≤ I ∧ I ≤ 10000) ∧ (1 < i → 0 ≤ G ∧ G ≤ 10000) ∧ (2 < i → 0 ≤ N2 ∧ N2 ≤ 10000) ∧ (3 < i → 0 ≤ N3 ∧ N3 ≤ 10000) ∧ (4 < i → 0 ≤ C ∧ C ≤ 10000) ∧ (5 < i → 0 ≤ R ∧ R ≤ 10000), fun i => 6 - i, ⟨0, [], ⟨by omega, by omega, by omega, by omega, by omega, by omega, by omega⟩, Ent.g⟩, ?_⟩⟩
  rintro i ⟨hi, a0, a1, a2, a3, a4, a5⟩
  rcases (show i = 0 ∨ i = 1 ∨ i = 2 ∨ i = 3 ∨ i = 4 ∨ i = 5 ∨ i = 6 by omega) with rfl | rfl | rfl | rfl | rfl | rfl | rfl
  · by_cases b0 : I < 0
    · repeat' ((conv => whnf); first | refine Ob.g ?_ | refine Cases.y ?_ | refine Cases.n ?_ | refine Idx.g rfl ?_ | refine Idx.z rfl ?_ | refine DrawOb.start ?_ | refine TryF.f ?_ | refine TryF.next rfl ?_ | refine TryF.other ?_ | refine TryA.g ?_ | refine TryA.next rfl ?_ | refine TryA.other ?_ | refine TryS.g ?_ | refine TryS.next rfl ?_ | refine TryS.other ?_ | refine TryG.g ?_ | refine TryG.next rfl ?_)
      refine ⟨⟨_, _, rfl, rfl, AvLe.int ?_⟩⟩
      exact (csig_six hk fun h => by unfold six at h; omega).symm
    · by_cases b1 : 10000 < I
      · repeat' ((conv => whnf); first | refine Ob.g ?_ | refine Cases.y ?_ | refine Cases.n ?_ | refine Idx.g rfl ?_ | refine Idx.z rfl ?_ | refine DrawOb.start ?_ | refine TryF.f ?_ | refine TryF.next rfl ?_ | refine TryF.other ?_ | refine TryA.g ?_ | refine TryA.next rfl ?_ | refine TryA.other ?_ | refine TryS.g ?_ | refine TryS.next rfl ?_ | refine TryS.other ?_ | refine TryG.g ?_ | refine TryG.next rfl ?_)
        refine ⟨⟨_, _, rfl, rfl, AvLe.int ?_⟩⟩
        exact (csig_six hk fun h => by unfold six at h; omega).symm
      · repeat' ((conv => whnf); first | refine Ob.g ?_ | refine Cases.y ?_ | refine Cases.n ?_ | refine Idx.g rfl ?_ | refine Idx.z rfl ?_ | refine DrawOb.start ?_ | refine TryF.f ?_ | refine TryF.next rfl ?_ | refine TryF.other ?_ | refine TryA.g ?_ | refine TryA.next rfl ?_ | refine TryA.other ?_ | refine TryS.g ?_ | refine TryS.next rfl ?_ | refine TryS.other ?_ | refine TryG.g ?_ | refine TryG.next rfl ?_)
        exact ⟨1, [], ⟨by omega, by omega, by omega, by omega, by omega, by omega, by omega⟩, by show 6 - 1 < 6 - 0; omega, Ent.g⟩
  · by_cases b0 : G < 0
    · repeat' ((conv => whnf); first | refine Ob.g ?_ | refine Cases.y ?_ | refine Cases.n ?_ | refine Idx.g rfl ?_ | refine Idx.z rfl ?_ | refine DrawOb.start ?_ | refine TryF.f ?_ | refine TryF.next rfl ?_ | refine TryF.other ?_ | refine TryA.g ?_ | refine TryA.next rfl ?_ | refine TryA.other ?_ | refine TryS.g ?_ | refine TryS.next rfl ?_ | refine TryS.other ?_ | refine TryG.g ?_ | refine TryG.next rfl ?_)
      refine ⟨⟨_, _, rfl, rfl, AvLe.int ?_⟩⟩
      exact (csig_six hk fun h => by unfold six at h; omega).symm
    · by_cases b1 : 10000 < G
      · repeat' ((conv => whnf); first | refine Ob.g ?_ | refine Cases.y ?_ | refine Cases.n ?_ | refine Idx.g rfl ?_ | refine Idx.z rfl ?_ | refine DrawOb.start ?_ | refine TryF.f ?_ | refine TryF.next rfl ?_ | refine TryF.other ?_ | refine TryA.g ?_ | refine TryA.next rfl ?_ | refine TryA.other ?_ | refine TryS.g ?_ | refine TryS.next rfl ?_ | refine TryS.other ?_ | refine TryG.g ?_ | refine TryG.next rfl ?_)
        refine ⟨⟨_, _, rfl, rfl, AvLe.int ?_⟩⟩
        exact (csig_six hk fun h => by unfold six at h; omega).symm
      · repeat' ((conv => whnf); first | refine Ob.g ?_ | refine Cases.y ?_ | refine Cases.n ?_ | refine Idx.g rfl ?_ | refine Idx.z rfl ?_ | refine DrawOb.start ?_ | refine TryF.f ?_ | refine TryF.next rfl ?_ | refine TryF.other ?_ | refine TryA.g ?_ | refine TryA.next rfl ?_ | refine TryA.other ?_ | refine TryS.g ?_ | refine TryS.next rfl ?_ | refine TryS.other ?_ | refine TryG.g ?_ | refine TryG.next rfl ?_)
        exact ⟨2, [], ⟨by omega, by omega, by omega, by omega, by omega, by omega, by omega⟩, by show 6 - 2 < 6 - 1; omega, Ent.g⟩
  · by_cases b0 : N2 < 0
    · repeat' ((conv => whnf); first | refine Ob.g ?_ | refine Cases.y ?_ | refine Cases.n ?_ | refine Idx.g rfl ?_ | refine Idx.z rfl ?_ | refine DrawOb.start ?_ | refine TryF.f ?_ | refine TryF.next rfl ?_ | refine TryF.other ?_ | refine TryA.g ?_ | refine TryA.next rfl ?_ | refine TryA.other ?_ | refine TryS.g ?_ | refine TryS.next rfl ?_ | refine TryS.other ?_ | refine TryG.g ?_ | refine TryG.next rfl ?_)
      refine ⟨⟨_, _, rfl, rfl, AvLe.int ?_⟩⟩
      exact (csig_six hk fun h => by unfold six at h; omega).symm
    · by_cases b1 : 10000 < N2
      · repeat' ((conv => whnf); first | refine Ob.g ?_ | refine Cases.y ?_ | refine Cases.n ?_ | refine Idx.g rfl ?_ | refine Idx.z rfl ?_ | refine DrawOb.start ?_ | refine TryF.f ?_ | refine TryF.next rfl ?_ | refine TryF.other ?_ | refine TryA.g ?_ | refine TryA.next rfl ?_ | refine TryA.other ?_ | refine TryS.g ?_ | refine TryS.next rfl ?_ | refine TryS.other ?_ | refine TryG.g ?_ | refine TryG.next rfl ?_)
        refine ⟨⟨_, _, rfl, rfl, AvLe.int ?_⟩⟩
        exact (csig_six hk fun h => by unfold six at h; omega).symm
      · repeat' ((conv => whnf); first | refine Ob.g ?_ | refine Cases.y ?_ | refine Cases.n ?_ | refine Idx.g rfl ?_ | refine Idx.z rfl ?_ | refine DrawOb.start ?_ | refine TryF.f ?_ | refine TryF.next rfl ?_ | refine TryF.other ?_ | refine TryA.g ?_ | refine TryA.next rfl ?_ | refine TryA.other ?_ | refine TryS.g ?_ | refine TryS.next rfl ?_ | refine TryS.other ?_ | refine TryG.g ?_ | refine TryG.next rfl ?_)
        exact ⟨3, [], ⟨by omega, by omega, by omega, by omega, by omega, by omega, by omega⟩, by show 6 - 3 < 6 - 2; omega, Ent.g⟩
  · by_cases b0 : N3 < 0
    · repeat' ((conv => whnf); first | refine Ob.g ?_ | refine Cases.y ?_ | refine Cases.n ?_ | refine Idx.g rfl ?_ | refine Idx.z rfl ?_ | refine DrawOb.start ?_ | refine TryF.f ?_ | refine TryF.next rfl ?_ | refine TryF.other ?_ | refine TryA.g ?_ | refine TryA.next rfl ?_ | refine TryA.other ?_ | refine TryS.g ?_ | refine TryS.next rfl ?_ | refine TryS.other ?_ | refine TryG.g ?_ | refine TryG.next rfl ?_)
      refine ⟨⟨_, _, rfl, rfl, AvLe.int ?_⟩⟩
      exact (csig_six hk fun h => by unfold six at h; omega).symm
    · by_cases b1 : 10000 < N3
      · repeat' ((conv => whnf); first | refine Ob.g ?_ | refine Cases.y ?_ | refine Cases.n ?_ | refine Idx.g rfl ?_ | refine Idx.z rfl ?_ | refine DrawOb.start ?_ | refine TryF.f ?_ | refine TryF.next rfl ?_ | refine TryF.other ?_ | refine TryA.g ?_ | refine TryA.next rfl ?_ | refine TryA.other ?_ | refine TryS.g ?_ | refine TryS.next rfl ?_ | refine TryS.other ?_ | refine TryG.g ?_ | refine TryG.next rfl ?_)
        refine ⟨⟨_, _, rfl, rfl, AvLe.int ?_⟩⟩
        exact (csig_six hk fun h => by unfold six at h; omega).symm
      · repeat' ((conv => whnf); first | refine Ob.g ?_ | refine Cases.y ?_ | refine Cases.n ?_ | refine Idx.g rfl ?_ | refine Idx.z rfl ?_ | refine DrawOb.start ?_ | refine TryF.f ?_ | refine TryF.next rfl ?_ | refine TryF.other ?_ | refine TryA.g ?_ | refine TryA.next rfl ?_ | refine TryA.other ?_ | refine TryS.g ?_ | refine TryS.next rfl ?_ | refine TryS.other ?_ | refine TryG.g ?_ | refine TryG.next rfl ?_)
        exact ⟨4, [], ⟨by omega, by omega, by omega, by omega, by omega, by omega, by omega⟩, by show 6 - 4 < 6 - 3; omega, Ent.g⟩
  · by_cases b0 : C < 0
    · repeat' ((conv => whnf); first | refine Ob.g ?_ | refine Cases.y ?_ | refine Cases.n ?_ | refine Idx.g rfl ?_ | refine Idx.z rfl ?_ | refine DrawOb.start ?_ | refine TryF.f ?_ | refine TryF.next rfl ?_ | refine TryF.other ?_ | refine TryA.g ?_ | refine TryA.next rfl ?_ | refine TryA.other ?_ | refine TryS.g ?_ | refine TryS.next rfl ?_ | refine TryS.other ?_ | refine TryG.g ?_ | refine TryG.next rfl ?_)
      refine ⟨⟨_, _, rfl, rfl, AvLe.int ?_⟩⟩
      exact (csig_six hk fun h => by unfold six at h; omega).symm
    · by_cases b1 : 10000 < C
      · repeat' ((conv => whnf); first | refine Ob.g ?_ | refine Cases.y ?_ | refine Cases.n ?_ | refine Idx.g rfl ?_ | refine Idx.z rfl ?_ | refine DrawOb.start ?_ | refine TryF.f ?_ | refine TryF.next rfl ?_ | refine TryF.other ?_ | refine TryA.g ?_ | refine TryA.next rfl ?_ | refine TryA.other ?_ | refine TryS.g ?_ | refine TryS.next rfl ?_ | refine TryS.other ?_ | refine TryG.g ?_ | refine TryG.next rfl ?_)
        refine ⟨⟨_, _, rfl, rfl, AvLe.int ?_⟩⟩
        exact (csig_six hk fun h => by unfold six at h; omega).symm
      · repeat' ((conv => whnf); first | refine Ob.g ?_ | refine Cases.y ?_ | refine Cases.n ?_ | refine Idx.g rfl ?_ | refine Idx.z rfl ?_ | refine DrawOb.start ?_ | refine TryF.f ?_ | refine TryF.next rfl ?_ | refine TryF.other ?_ | refine TryA.g ?_ | refine TryA.next rfl ?_ | refine TryA.other ?_ | refine TryS.g ?_ | refine TryS.next rfl ?_ | refine TryS.other ?_ | refine TryG.g ?_ | refine TryG.next rfl ?_)
        exact ⟨5, [], ⟨by omega, by omega, by omega, by omega, by omega, by omega, by omega⟩, by show 6 - 5 < 6 - 4; omega, Ent.g⟩
  · by_cases b0 : R < 0
    · repeat' ((conv => whnf); first | refine Ob.g ?_ | refine Cases.y ?_ | refine Cases.n ?_ | refine Idx.g rfl ?_ | refine Idx.z rfl ?_ | refine DrawOb.start ?_ | refine TryF.f ?_ | refine TryF.next rfl ?_ | refine TryF.other ?_ | refine TryA.g ?_ | refine TryA.next rfl ?_ | refine TryA.other ?_ | refine TryS.g ?_ | refine TryS.next rfl ?_ | refine TryS.other ?_ | refine TryG.g ?_ | refine TryG.next rfl ?_)
      refine ⟨⟨_, _, rfl, rfl, AvLe.int ?_⟩⟩
      exact (csig_six hk fun h => by unfold six at h; omega).symm
    · by_cases b1 : 10000 < R
      · repeat' ((conv => whnf); first | refine Ob.g ?_ | refine Cases.y ?_ | refine Cases.n ?_ | refine Idx.g rfl ?_ | refine Idx.z rfl ?_ | refine DrawOb.start ?_ | refine TryF.f ?_ | refine TryF.next rfl ?_ | refine TryF.other ?_ | refine TryA.g ?_ | refine TryA.next rfl ?_ | refine TryA.other ?_ | refine TryS.g ?_ | refine TryS.next rfl ?_ | refine TryS.other ?_ | refine TryG.g ?_ | refine TryG.next rfl ?_)
        refine ⟨⟨_, _, rfl, rfl, AvLe.int ?_⟩⟩
        exact (csig_six hk fun h => by unfold six at h; omega).symm
      · repeat' ((conv => whnf); first | refine Ob.g ?_ | refine Cases.y ?_ | refine Cases.n ?_ | refine Idx.g rfl ?_ | refine Idx.z rfl ?_ | refine DrawOb.start ?_ | refine TryF.f ?_ | refine TryF.next rfl ?_ | refine TryF.other ?_ | refine TryA.g ?_ | refine TryA.next rfl ?_ | refine TryA.other ?_ | refine TryS.g ?_ | refine TryS.next rfl ?_ | refine TryS.other ?_ | refine TryG.g ?_ | refine TryG.next rfl ?_)
        exact ⟨6, [], ⟨by omega, by omega, by omega, by omega, by omega, by omega, by omega⟩, by show 6 - 6 < 6 - 5; omega, Ent.g⟩
  · have hs : six I G N2 N3 C R := by unfold six; omega
    clear hi
    have e1 := a0 (by omega)
    have e2 := a1 (by omega)
    have e3 := a2 (by omega)
    have e4 := a3 (by omega)
    have e5 := a4 (by omega)
    have e6 := a5 (by omega)
    clear a0 a1 a2 a3 a4 a5
    have ek : K.tmod 2 = K % 2 := Int.tmod_eq_emod_of_nonneg (by omega)
    by_cases c1 : C < R
    · repeat' ((conv => whnf); first | refine Ob.g ?_ | refine Cases.y ?_ | refine Cases.n ?_ | refine Idx.g rfl ?_ | refine Idx.z rfl ?_ | refine DrawOb.start ?_ | refine TryF.f ?_ | refine TryF.next rfl ?_ | refine TryF.other ?_ | refine TryA.g ?_ | refine TryA.next rfl ?_ | refine TryA.other ?_ | refine TryS.g ?_ | refine TryS.next rfl ?_ | refine TryS.other ?_ | refine TryG.g ?_ | refine TryG.next rfl ?_)
      refine ⟨⟨_, _, rfl, rfl, AvLe.int ?_⟩⟩
      exact (csig_form hk hs (.inl c1)).symm
    have ec : (C - R).tmod 2 = (C - R) % 2 := Int.tmod_eq_emod_of_nonneg (by omega)
    cases M with
    | true =>
      by_cases c2 : 0 < R
      · repeat' ((conv => whnf); first | refine Ob.g ?_ | refine Cases.y ?_ | refine Cases.n ?_ | refine Idx.g rfl ?_ | refine Idx.z rfl ?_ | refine DrawOb.start ?_ | refine TryF.f ?_ | refine TryF.next rfl ?_ | refine TryF.other ?_ | refine TryA.g ?_ | refine TryA.next rfl ?_ | refine TryA.other ?_ | refine TryS.g ?_ | refine TryS.next rfl ?_ | refine TryS.other ?_ | refine TryG.g ?_ | refine TryG.next rfl ?_)
        refine ⟨⟨_, _, rfl, rfl, AvLe.int ?_⟩⟩
        exact (csig_form hk hs (.inr (.inl ⟨rfl, c2⟩))).symm
      by_cases c3 : 12 * G = 12 + I - 3 * N2 - 4 * N3 - 6 * C
      · have hn : ¬ formB I G N2 N3 C R true := not_form c1 (fun _ => c2) (fun h => by cases h) c3
        by_cases c4 : K % 2 = 1
        · repeat' ((conv => whnf); first | refine Ob.g ?_ | refine Cases.y ?_ | refine Cases.n ?_ | refine Idx.g rfl ?_ | refine Idx.z rfl ?_ | refine DrawOb.start ?_ | refine TryF.f ?_ | refine TryF.next rfl ?_ | refine TryF.other ?_ | refine TryA.g ?_ | refine TryA.next rfl ?_ | refine TryA.other ?_ | refine TryS.g ?_ | refine TryS.next rfl ?_ | refine TryS.other ?_ | refine TryG.g ?_ | refine TryG.next rfl ?_)
          refine ⟨⟨_, _, rfl, rfl, AvLe.int ?_⟩⟩
          exact (csig_par hk hs hn ⟨rfl, c4⟩).symm
        · repeat' ((conv => whnf); first | refine Ob.g ?_ | refine Cases.y ?_ | refine Cases.n ?_ | refine Idx.g rfl ?_ | refine Idx.z rfl ?_ | refine DrawOb.start ?_ | refine TryF.f ?_ | refine TryF.next rfl ?_ | refine TryF.other ?_ | refine TryA.g ?_ | refine TryA.next rfl ?_ | refine TryA.other ?_ | refine TryS.g ?_ | refine TryS.next rfl ?_ | refine TryS.other ?_ | refine TryG.g ?_ | refine TryG.next rfl ?_)
          refine ⟨⟨_, _, rfl, rfl, AvLe.int ?_⟩⟩
          exact (csig_ok hk hs hn fun h => c4 h.2).symm
      · repeat' ((conv => whnf); first | refine Ob.g ?_ | refine Cases.y ?_ | refine Cases.n ?_ | refine Idx.g rfl ?_ | refine Idx.z rfl ?_ | refine DrawOb.start ?_ | refine TryF.f ?_ | refine TryF.next rfl ?_ | refine TryF.other ?_ | refine TryA.g ?_ | refine TryA.next rfl ?_ | refine TryA.other ?_ | refine TryS.g ?_ | refine TryS.next rfl ?_ | refine TryS.other ?_ | refine TryG.g ?_ | refine TryG.next rfl ?_)
        refine ⟨⟨_, _, rfl, rfl, AvLe.int ?_⟩⟩
        exact (csig_form hk hs (.inr (.inr (.inr c3)))).symm
    | false =>
      by_cases c2 : 0 < N2
      · repeat' ((conv => whnf); first | refine Ob.g ?_ | refine Cases.y ?_ | refine Cases.n ?_ | refine Idx.g rfl ?_ | refine Idx.z rfl ?_ | refine DrawOb.start ?_ | refine TryF.f ?_ | refine TryF.next rfl ?_ | refine TryF.other ?_ | refine TryA.g ?_ | refine TryA.next rfl ?_ | refine TryA.other ?_ | refine TryS.g ?_ | refine TryS.next rfl ?_ | refine TryS.other ?_ | refine TryG.g ?_ | refine TryG.next rfl ?_)
        refine ⟨⟨_, _, rfl, rfl, AvLe.int ?_⟩⟩
        exact (csig_form hk hs (.inr (.inr (.inl ⟨rfl, .inl c2⟩)))).symm
      by_cases c5 : (C - R) % 2 = 0
      · by_cases c3 : 12 * G = 12 + I - 3 * N2 - 4 * N3 - 6 * C
        · have hn : ¬ formB I G N2 N3 C R false := not_form c1 (fun h => by cases h) (fun _ => ⟨c2, c5⟩) c3
          by_cases c4 : K % 2 = 1
          · repeat' ((conv => whnf); first | refine Ob.g ?_ | refine Cases.y ?_ | refine Cases.n ?_ | refine Idx.g rfl ?_ | refine Idx.z rfl ?_ | refine DrawOb.start ?_ | refine TryF.f ?_ | refine TryF.next rfl ?_ | refine TryF.other ?_ | refine TryA.g ?_ | refine TryA.next rfl ?_ | refine TryA.other ?_ | refine TryS.g ?_ | refine TryS.next rfl ?_ | refine TryS.other ?_ | refine TryG.g ?_ | refine TryG.next rfl ?_)
            refine ⟨⟨_, _, rfl, rfl, AvLe.int ?_⟩⟩
            exact (csig_ok hk hs hn fun h => by cases h.1).symm
          · repeat' ((conv => whnf); first | refine Ob.g ?_ | refine Cases.y ?_ | refine Cases.n ?_ | refine Idx.g rfl ?_ | refine Idx.z rfl ?_ | refine DrawOb.start ?_ | refine TryF.f ?_ | refine TryF.next rfl ?_ | refine TryF.other ?_ | refine TryA.g ?_ | refine TryA.next rfl ?_ | refine TryA.other ?_ | refine TryS.g ?_ | refine TryS.next rfl ?_ | refine TryS.other ?_ | refine TryG.g ?_ | refine TryG.next rfl ?_)
            refine ⟨⟨_, _, rfl, rfl, AvLe.int ?_⟩⟩
            exact (csig_ok hk hs hn fun h => by cases h.1).symm
        · repeat' ((conv => whnf); first | refine Ob.g ?_ | refine Cases.y ?_ | refine Cases.n ?_ | refine Idx.g rfl ?_ | refine Idx.z rfl ?_ | refine DrawOb.start ?_ | refine TryF.f ?_ | refine TryF.next rfl ?_ | refine TryF.other ?_ | refine TryA.g ?_ | refine TryA.next rfl ?_ | refine TryA.other ?_ | refine TryS.g ?_ | refine TryS.next rfl ?_ | refine TryS.other ?_ | refine TryG.g ?_ | refine TryG.next rfl ?_)
          refine ⟨⟨_, _, rfl, rfl, AvLe.int ?_⟩⟩
          exact (csig_form hk hs (.inr (.inr (.inr c3)))).symm
      · repeat' ((conv => whnf); first | refine Ob.g ?_ | refine Cases.y ?_ | refine Cases.n ?_ | refine Idx.g rfl ?_ | refine Idx.z rfl ?_ | refine DrawOb.start ?_ | refine TryF.f ?_ | refine TryF.next rfl ?_ | refine TryF.other ?_ | refine TryA.g ?_ | refine TryA.next rfl ?_ | refine TryA.other ?_ | refine TryS.g ?_ | refine TryS.next rfl ?_ | refine TryS.other ?_ | refine TryG.g ?_ | refine TryG.next rfl ?_)
        refine ⟨⟨_, _, rfl, rfl, AvLe.int ?_⟩⟩
        exact (csig_form hk hs (.inr (.inr (.inl ⟨rfl, .inr c5⟩)))).symm
theorem mul24 {a b : Int} (h0 : 0 ≤ a) (h1 : a ≤ 24) (h2 : -1 ≤ b) (h3 : b ≤ 10000) : -24 ≤ a * b ∧ a * b ≤ 240000 := by
  have h4 := Int.mul_le_mul_of_nonneg_left h2 h0
  have h5 := Int.mul_le_mul_of_nonneg_left h3 h0
  omega
/-- the dimension of the cusp forms of a signature -/
def cuspS (G N2 N3 C R K : Int) : Int :=
  if K = 2 then G else if K % 2 = 0 then (K - 1) * (G - 1) + K.tdiv 4 * N2 + K.tdiv 3 * N3 + (K.tdiv 2 - 1) * C
  else (K - 1) * (G - 1) + K.tdiv 3 * N3 + ((K - 2) * (C - R)).tdiv 2 + (K - 1).tdiv 2 * R
def modS (G N2 N3 C R K : Int) : Int :=
  if K = 2 then cuspS G N2 N3 C R K + C - 1 else if K % 2 = 0 then cuspS G N2 N3 C R K + C else cuspS G N2 N3 C R K + C - R
theorem cuspS_bd {I G N2 N3 C R K : Int} {M : Bool} (h : csig I G N2 N3 C R M K = 0) : -10000000 ≤ cuspS G N2 N3 C R K ∧ cuspS G N2 N3 C R K ≤ 10000000 := by
  obtain ⟨hk, hs, hf, hp⟩ := csig_out h
  unfold six at hs
  have hcr : ¬ C < R := fun x => hf (.inl x)
  have ek : K.tmod 2 = K % 2 := Int.tmod_eq_emod_of_nonneg (by omega)
  have k4 : K.tdiv 4 = K / 4 := Int.tdiv_eq_ediv_of_nonneg (by omega)
  have k3 : K.tdiv 3 = K / 3 := Int.tdiv_eq_ediv_of_nonneg (by omega)
  have k2 : K.tdiv 2 = K / 2 := Int.tdiv_eq_ediv_of_nonneg (by omega)
  have k1 : (K - 1).tdiv 2 = (K - 1) / 2 := Int.tdiv_eq_ediv_of_nonneg (by omega)
  have m1 := mul24 (a := K - 1) (b := G - 1) (by omega) (by omega) (by omega) (by omega)
  have m2 := mul24 (a := K.tdiv 4) (b := N2) (by omega) (by omega) (by omega) (by omega)
  have m3 := mul24 (a := K.tdiv 3) (b := N3) (by omega) (by omega) (by omega) (by omega)
  have m4 := mul24 (a := K.tdiv 2 - 1) (b := C) (by omega) (by omega) (by omega) (by omega)
  have m5 := mul24 (a := K - 2) (b := C - R) (by omega) (by omega) (by omega) (by omega)
  have m6 := mul24 (a := (K - 1).tdiv 2) (b := R) (by omega) (by omega) (by omega) (by omega)
  have m7 := HP.tdiv_bd (d := (K - 2) * (C - R)) (k := 2) (B := 240000) (by omega) (by omega)
  unfold cuspS
  split
  · omega
  · split <;> omega
set_option maxHeartbeats 4000000 in
theorem cuspSm_sp (I G N2 N3 C R : Int) (M : Bool) (K : Int) (h : csig I G N2 N3 C R M K = 0) : Sp CX 28 [sigA I G N2 N3 C R M, int .i64 K] (.tup [.c (ix (cuspS G N2 N3 C R K)), .c (ix 0)]) := by
  have s := csigm_sp I G N2 N3 C R M K
  rw [h] at s
  obtain ⟨hk, hs, hf, hp⟩ := csig_out h
  unfold six at hs
  have hcr : ¬ C < R := fun x => hf (.inl x)
  have ek : K.tmod 2 = K % 2 := Int.tmod_eq_emod_of_nonneg (by omega)
  have k4 : K.tdiv 4 = K / 4 := Int.tdiv_eq_ediv_of_nonneg (by omega)
  have k3 : K.tdiv 3 = K / 3 := Int.tdiv_eq_ediv_of_nonneg (by omega)
  have k2 : K.tdiv 2 = K / 2 := Int.tdiv_eq_ediv_of_nonneg (by omega)
  have k1 : (K - 1).tdiv 2 = (K - 1) / 2 := Int.tdiv_eq_ediv_of_nonneg (by omega)
  have m1 := mul24 (a := K - 1) (b := G - 1) (by omega) (by omega) (by omega) (by omega)
  have m2 := mul24 (a := K.tdiv 4) (b := N2) (by omega) (by omega) (by omega) (by omega)
  have m3 := mul24 (a := K.tdiv 3) (b := N3) (by omega) (by omega) (by omega) (by omega)
  have m4 := mul24 (a := K.tdiv 2 - 1) (b := C) (by omega) (by omega) (by omega) (by omega)
  have m5 := mul24 (a := K - 2) (b := C - R) (by omega) (by omega) (by omega) (by omega)
  have m6 := mul24 (a := (K - 1).tdiv 2) (b := R) (by omega) (by omega) (by omega) (by omega)
  refine fn_sp (C := CX) [] [] tysX_ok mixed Tryz.func28 rfl (by kernel_rfl) Tryz.ntmps28 rfl rfl ?_
  by_cases c1 : K = 2
  · repeat' ((conv => whnf); first | refine Ob.g ?_ | refine Cases.y ?_ | refine Cases.n ?_ | refine Idx.g rfl ?_ | refine Idx.z rfl ?_ | refine DrawOb.start ?_ | refine TryF.f ?_ | refine TryF.next rfl ?_ | refine TryF.other ?_ | refine TryA.g ?_ | refine TryA.next rfl ?_ | refine TryA.other ?_ | refine TryS.g ?_ | refine TryS.next rfl ?_ | refine TryS.other ?_ | refine TryG.g ?_ | refine TryG.next rfl ?_ | refine Sp.g (s) ?_)
    refine ⟨⟨_, _, rfl, rfl, ?_⟩⟩
    refine AvLe.tup (.cons (AvLe.int ?_) (.cons (AvLe.refl _) .nil))
    unfold cuspS; rw [if_pos c1]
  by_cases c2 : K % 2 = 0
  · repeat' ((conv => whnf); first | refine Ob.g ?_ | refine Cases.y ?_ | refine Cases.n ?_ | refine Idx.g rfl ?_ | refine Idx.z rfl ?_ | refine DrawOb.start ?_ | refine TryF.f ?_ | refine TryF.next rfl ?_ | refine TryF.other ?_ | refine TryA.g ?_ | refine TryA.next rfl ?_ | refine TryA.other ?_ | refine TryS.g ?_ | refine TryS.next rfl ?_ | refine TryS.other ?_ | refine TryG.g ?_ | refine TryG.next rfl ?_ | refine Sp.g (s) ?_)
    refine ⟨⟨_, _, rfl, rfl, ?_⟩⟩
    refine AvLe.tup (.cons (AvLe.int ?_) (.cons (AvLe.refl _) .nil))
    unfold cuspS; rw [if_neg c1, if_pos c2]
  have m7 := HP.tdiv_bd (d := (K - 2) * (C - R)) (k := 2) (B := 240000) (by omega) (by omega)
  repeat' ((conv => whnf); first | refine Ob.g ?_ | refine Cases.y ?_ | refine Cases.n ?_ | refine Idx.g rfl ?_ | refine Idx.z rfl ?_ | refine DrawOb.start ?_ | refine TryF.f ?_ | refine TryF.next rfl ?_ | refine TryF.other ?_ | refine TryA.g ?_ | refine TryA.next rfl ?_ | refine TryA.other ?_ | refine TryS.g ?_ | refine TryS.next rfl ?_ | refine TryS.other ?_ | refine TryG.g ?_ | refine TryG.next rfl ?_ | refine Sp.g (s) ?_)
  refine ⟨⟨_, _, rfl, rfl, ?_⟩⟩
  refine AvLe.tup (.cons (AvLe.int ?_) (.cons (AvLe.refl _) .nil))
  unfold cuspS; rw [if_neg c1, if_neg c2]
set_option maxHeartbeats 4000000 in
theorem modSm_sp (I G N2 N3 C R : Int) (M : Bool) (K : Int) (h : csig I G N2 N3 C R M K = 0) : Sp CX 13 [sigA I G N2 N3 C R M, int .i64 K] (.tup [.c (ix (modS G N2 N3 C R K)), .c (ix 0)]) := by
  have s := cuspSm_sp I G N2 N3 C R M K h
  have b := cuspS_bd h
  obtain ⟨hk, hs, hf, hp⟩ := csig_out h
  unfold six at hs
  have ek : K.tmod 2 = K % 2 := Int.tmod_eq_emod_of_nonneg (by omega)
  refine fn_sp (C := CX) [] [] tysX_ok mixed Tryz.func13 rfl (by kernel_rfl) Tryz.ntmps13 rfl rfl ?_
  by_cases c1 : K = 2
  · repeat' ((conv => whnf); first | refine Ob.g ?_ | refine Cases.y ?_ | refine Cases.n ?_ | refine Idx.g rfl ?_ | refine Idx.z rfl ?_ | refine DrawOb.start ?_ | refine TryF.f ?_ | refine TryF.next rfl ?_ | refine TryF.other ?_ | refine TryA.g ?_ | refine TryA.next rfl ?_ | refine TryA.other ?_ | refine TryS.g ?_ | refine TryS.next rfl ?_ | refine TryS.other ?_ | refine TryG.g ?_ | refine TryG.next rfl ?_ | refine Sp.g (s) ?_)
    refine ⟨⟨_, _, rfl, rfl, ?_⟩⟩
    refine AvLe.tup (.cons (AvLe.int ?_) (.cons (AvLe.refl _) .nil))
    unfold modS; rw [if_pos c1] <;> omega
  by_cases c2 : K % 2 = 0
  · repeat' ((conv => whnf); first | refine Ob.g ?_ | refine Cases.y ?_ | refine Cases.n ?_ | refine Idx.g rfl ?_ | refine Idx.z rfl ?_ | refine DrawOb.start ?_ | refine TryF.f ?_ | refine TryF.next rfl ?_ | refine TryF.other ?_ | refine TryA.g ?_ | refine TryA.next rfl ?_ | refine TryA.other ?_ | refine TryS.g ?_ | refine TryS.next rfl ?_ | refine TryS.other ?_ | refine TryG.g ?_ | refine TryG.next rfl ?_ | refine Sp.g (s) ?_)
    refine ⟨⟨_, _, rfl, rfl, ?_⟩⟩
    refine AvLe.tup (.cons (AvLe.int ?_) (.cons (AvLe.refl _) .nil))
    unfold modS; rw [if_neg c1, if_pos c2]
  repeat' ((conv => whnf); first | refine Ob.g ?_ | refine Cases.y ?_ | refine Cases.n ?_ | refine Idx.g rfl ?_ | refine Idx.z rfl ?_ | refine DrawOb.start ?_ | refine TryF.f ?_ | refine TryF.next rfl ?_ | refine TryF.other ?_ | refine TryA.g ?_ | refine TryA.next rfl ?_ | refine TryA.other ?_ | refine TryS.g ?_ | refine TryS.next rfl ?_ | refine TryS.other ?_ | refine TryG.g ?_ | refine TryG.next rfl ?_ | refine Sp.g (s) ?_)
  refine ⟨⟨_, _, rfl, rfl, ?_⟩⟩
  refine AvLe.tup (.cons (AvLe.int ?_) (.cons (AvLe.refl _) .nil))
  unfold modS; rw [if_neg c1, if_neg c2] <;> omega
theorem cuspS_bad (I G N2 N3 C R : Int) (M : Bool) (K : Int) (h : csig I G N2 N3 C R M K ≠ 0) : Sp CX 28 [sigA I G N2 N3 C R M, int .i64 K] (.tup [.c (ix 0), .c (ix (csig I G N2 N3 C R M K))]) := by
  refine fn_sp (C := CX) [] [] tysX_ok mixed Tryz.func28 rfl (by kernel_rfl) Tryz.ntmps28 rfl rfl ?_
  have s := csigm_sp I G N2 N3 C R M K
  obtain ⟨e, he⟩ : ∃ e, e = csig I G N2 N3 C R M K := ⟨_, rfl⟩
  rw [← he] at s h ⊢
  repeat' ((conv => whnf); first | refine Ob.g ?_ | refine Cases.y ?_ | refine Cases.n ?_ | refine Idx.g rfl ?_ | refine Idx.z rfl ?_ | refine DrawOb.start ?_ | refine TryF.f ?_ | refine TryF.next rfl ?_ | refine TryF.other ?_ | refine TryA.g ?_ | refine TryA.next rfl ?_ | refine TryA.other ?_ | refine TryS.g ?_ | refine TryS.next rfl ?_ | refine TryS.other ?_ | refine TryG.g ?_ | refine TryG.next rfl ?_ | refine Sp.g (s) ?_)
  refine ⟨⟨_, _, rfl, rfl, ?_⟩⟩
  exact AvLe.refl _
theorem modS_bad (I G N2 N3 C R : Int) (M : Bool) (K : Int) (h : csig I G N2 N3 C R M K ≠ 0) : Sp CX 13 [sigA I G N2 N3 C R M, int .i64 K] (.tup [.c (ix 0), .c (ix (csig I G N2 N3 C R M K))]) := by
  refine fn_sp (C := CX) [] [] tysX_ok mixed Tryz.func13 rfl (by kernel_rfl) Tryz.ntmps13 rfl rfl ?_
  have s := cuspS_bad I G N2 N3 C R M K h
  obtain ⟨e, he⟩ : ∃ e, e = csig I G N2 N3 C R M K := ⟨_, rfl⟩
  rw [← he] at s h ⊢
  repeat' ((conv => whnf); first | refine Ob.g ?_ | refine Cases.y ?_ | refine Cases.n ?_ | refine Idx.g rfl ?_ | refine Idx.z rfl ?_ | refine DrawOb.start ?_ | refine TryF.f ?_ | refine TryF.next rfl ?_ | refine TryF.other ?_ | refine TryA.g ?_ | refine TryA.next rfl ?_ | refine TryA.other ?_ | refine TryS.g ?_ | refine TryS.next rfl ?_ | refine TryS.other ?_ | refine TryG.g ?_ | refine TryG.next rfl ?_ | refine Sp.g (s) ?_)
  refine ⟨⟨_, _, rfl, rfl, ?_⟩⟩
  exact AvLe.refl _
end Go.Proofs.YtedfcemebdlgfaaGreatDoor

/- The signature of Gamma0(n), by its formula. -/
namespace Go.Proofs.YtedfcemebdlgfaaGreatDoor
open Go Go.RowKit Go.VG HP
def sigL (I G N2 N3 C R : Int) (M : Bool) : V1 := .agg [ix I, ix G, ix N2, ix N3, ix C, ix R, .x (.bool M)]
def genV (I N2 N3 C : Int) : Int := (12 + I - 3 * N2 - 4 * N3 - 6 * C).tdiv 12
theorem phi_sp (N : Nat) (hN0 : 1 ≤ N) (hN : N ≤ 2147483647) : Sp CX 108 [int .i64 N] (.tup [.c (ix (phi N)), .c (ix 0)]) :=
  .of_val (vs0 := [.int .i64 N]) (v := .tuple #[.int .i64 (phi N), .int .i64 0]) (callOk Tryz.func108 (by kernel_rfl) (by kernel_rfl)) rfl (fun _ _ _ h => argsX h) (fun _ _ => ⟨[_, _], rfl, ⟨rfl, rfl⟩, ⟨rfl, rfl⟩, trivial⟩) fun w _ => phi_any N w hN0 hN
def krF (D : Int) (p _ : Nat) : Int := 1 + kro D p
theorem krF_bd (D : Int) {n : Nat} (hn : 0 < n) (i : Nat) : 0 ≤ prodL (krF D) ((facs n).take i) ∧ prodL (krF D) ((facs n).take i) ≤ n := by
  have hx : facs n = (facs n).take i ++ (facs n).drop i := (List.take_append_drop i _).symm
  obtain ⟨c, d⟩ := prefix_pw hn hx
  have h := prodL_le (f := krF D) (g := pwF) ((facs n).take i) (fun x h => by
    obtain ⟨p, e⟩ := x
    have hm : (p, e) ∈ facs n := List.mem_of_mem_take h
    have hb := facs_bounds hn hm
    have h2 : p ^ 1 ≤ p ^ e := Nat.pow_le_pow_right (by omega) hb.2.2.1
    have e0 : pwF p e = ((p ^ e : Nat) : Int) := by unfold pwF; rw [Int.natCast_pow]
    rw [Nat.pow_one] at h2
    show 0 ≤ krF D p e ∧ krF D p e ≤ pwF p e
    rw [e0]
    unfold krF
    rcases kro_tri D p with k | k | k <;> omega)
  omega
def nu2 (n : Nat) : Int := if n % 4 = 0 then 0 else prodL (krF (-4)) (facs n)
def nu3 (n : Nat) : Int := if n % 9 = 0 then 0 else prodL (krF (-3)) (facs n)
def cspG (n d : Nat) : Int := phi (Nat.gcd d (n / d))
def cspN (n : Nat) : Int := sumG (cspG n) (dvs n)
theorem phi_sm {n : Nat} (h1 : 1 ≤ n) (h2 : n ≤ 120) : 0 ≤ phi n ∧ phi n ≤ 120 := by
  have h : allB 121 (fun n => decide (n = 0) || (decide (0 ≤ prodC phiF n) && decide (prodC phiF n ≤ 120))) = true := by decide +kernel
  have := allB_at h (show n < 121 by omega)
  simp only [Bool.or_eq_true, Bool.and_eq_true, decide_eq_true_eq] at this
  rw [phi_C h1 h2]
  exact this.resolve_left (by omega)
theorem cspG_bd {n d : Nat} (h1 : 1 ≤ n) (h2 : n ≤ 120) (hd : d ∣ n) : 0 ≤ cspG n d ∧ cspG n d ≤ 120 := by
  have hd1 := Nat.pos_of_dvd_of_pos hd h1
  have hd2 := Nat.le_of_dvd h1 hd
  have hg : 0 < Nat.gcd d (n / d) := Nat.gcd_pos_of_pos_left _ hd1
  have hg2 := Nat.le_of_dvd hd1 (Nat.gcd_dvd_left d (n / d))
  exact phi_sm hg (by omega)
theorem cspS_bd {n : Nat} (h1 : 1 ≤ n) (h2 : n ≤ 120) (i : Nat) : -15000 ≤ sumG (cspG n) ((dvs n).take i) ∧ sumG (cspG n) ((dvs n).take i) ≤ 15000 := by
  have h := sumG_bdm (G := cspG n) (B := 120) (by omega) ((dvs n).take i) fun d hd => by have := cspG_bd h1 h2 ((dvs_mem h1).1 (List.mem_of_mem_take hd)); omega
  have hl : ((dvs n).take i).length ≤ n + 1 := by
    rw [List.length_take]
    have : (dvs n).length ≤ n + 1 := by
      unfold dvs
      exact Nat.le_trans (List.length_filter_le _ _) (by simp)
    omega
  omega
end Go.Proofs.YtedfcemebdlgfaaGreatDoor

/- What the kernel can reckon; the fixed calls. -/
namespace Go.Proofs.YtedfcemebdlgfaaGreatDoor
open Go Go.RowKit Go.VG HP
def jacC (D : Int) (a : Nat) : Int := prodL (fun p e => symV D p ^ e) (facC a)
theorem jac_C {D : Int} {a : Nat} (h1 : 1 ≤ a) (h2 : a ≤ 120) : jac D a = jacC D a := by
  unfold jac jacC
  rw [ext_facs _ _ h1, ← facs_C h1 h2]
  refine prodL_congr _ fun x hx => ?_
  have := facs_mem h1 x hx
  rw [symV_kr this.1 (Nat.le_trans (Nat.le_of_dvd h1 this.2.2) h2)]
theorem rootR_congr {n c : Nat} {g h : Nat → Int} : ∀ m : Nat, (∀ a, 1 ≤ a → a ≤ m → g a = h a) → rootR n c g m = rootR n c h m
  | 0, _ => rfl
  | m + 1, H => by
    rw [rootR, rootR, rootR_congr m fun a h1 h2 => H a h1 (by omega), H (m + 1) (by omega) (Nat.le_refl _)]
/-- the dimension, times 12, from its data -/
def dimT (k f : Nat) (P L x y : Int) : Int :=
  ((k : Int) - 1) * P - 6 * L + (if k = 2 ∧ f = 1 then 12 else 0) + (if k % 4 = 0 then 3 * x else if k % 4 = 2 then -(3 * x) else 0) + (if k % 3 = 0 then 2 * y else if k % 3 = 2 then -(2 * y) else 0)
def fourC (n : Nat) (D : Int) : Int := rootR n 0 (fun a => jacC D a) n
def threeC (n : Nat) (D : Int) : Int := rootR n 1 (fun a => 2 * jacC D a) n
def cuspC (n k : Nat) (D : Int) : Int := (dimT k D.natAbs (prodC psiF n) (prodC (lamG D.natAbs) n) (fourC n D) (threeC n D)).tdiv 12
theorem cusp_C {n k : Nat} {D : Int} (h1 : 1 ≤ n) (h2 : n ≤ 120) (h0 : D ≠ 0) : cuspV n k D = cuspC n k D := by
  have e1 : rootR n 0 (fun a => jac D a) n = fourC n D := rootR_congr (g := fun a => jac D a) (h := fun a => jacC D a) n fun a x y => jac_C x (by omega)
  have e2 : rootR n 1 (fun a => 2 * jac D a) n = threeC n D := rootR_congr (g := fun a => 2 * jac D a) (h := fun a => 2 * jacC D a) n fun a x y => by
    show 2 * jac D a = 2 * jacC D a
    rw [jac_C x (by omega)]
  unfold cuspV cuspC
  rw [e1, e2]
  unfold dim12 dimT
  rw [psi_C h1 h2, lam_C (by omega) h1 h2]
def newC (n k : Nat) (D : Int) : Int := sumG (fun m => if D.natAbs ∣ m then prodC betF (n / m) * cuspC m k D else 0) (dvs n)
theorem sumG_congr {G H : Nat → Int} : ∀ l : List Nat, (∀ x ∈ l, G x = H x) → sumG G l = sumG H l
  | [], _ => rfl
  | x :: l, h => by rw [sumG, sumG, h x (List.mem_cons_self ..), sumG_congr l fun y hy => h y (List.mem_cons_of_mem _ hy)]
theorem new_C {n k : Nat} {D : Int} (h1 : 1 ≤ n) (h2 : n ≤ 120) (h0 : D ≠ 0) : newV n k D = newC n k D := by
  unfold newV newC
  refine sumG_congr _ fun m hm => ?_
  have hd := (dvs_mem h1).1 hm
  have hm1 := Nat.pos_of_dvd_of_pos hd h1
  have hm2 := Nat.le_of_dvd h1 hd
  have hq1 : 0 < n / m := Nat.div_pos hm2 hm1
  have hq2 := Nat.div_le_self n m
  unfold newG
  rw [cusp_C hm1 (by omega) h0, bet_C hq1 (by omega)]
theorem awk1 : cuspV 23 3 (-23) = 3 := by
  rw [cusp_C (by omega) (by omega) (by omega)]
  decide +kernel
theorem awk2 : newV 22 2 1 = 0 := by
  rw [new_C (by omega) (by omega) (by omega)]
  decide +kernel
theorem awk3 : (((2 : Nat) : Int) * psi 11).tdiv 12 = 2 := by
  rw [psi_C (by omega) (by omega)]
  decide +kernel
theorem awk4 : csig 6 0 0 0 3 1 false 3 = 0 ∧ modS 0 0 0 3 1 3 = 2 := by decide +kernel
theorem dok1 : DOk 23 3 (-23) := by
  refine ⟨by omega, by omega, by omega, by omega, by omega, by omega, by omega, by omega, .inr (by decide +kernel), by decide, by decide, ?_⟩
  rw [psi_C (by omega) (by omega)]
  decide +kernel
theorem dok2 : DOk 22 2 1 := by
  refine ⟨by omega, by omega, by omega, by omega, by omega, by omega, by omega, by omega, .inl rfl, by decide, by decide, ?_⟩
  rw [psi_C (by omega) (by omega)]
  decide +kernel
theorem dok3 : DOk 11 2 1 := by
  refine ⟨by omega, by omega, by omega, by omega, by omega, by omega, by omega, by omega, .inl rfl, by decide, by decide, ?_⟩
  rw [psi_C (by omega) (by omega)]
  decide +kernel
theorem awake_sp : Sp CX 4 [] (bool true) := by
  have s1 := cusp_ok 23 3 (-23) dok1
  rw [awk1] at s1
  have s2 := new_ok 22 2 1 dok2
  rw [awk2] at s2
  have s3 := sturm_ok 11 2 1 dok3
  rw [awk3] at s3
  have s4 := modSm_sp 6 0 0 0 3 1 false 3 awk4.1
  rw [awk4.2] at s4
  refine fn_sp (C := CX) [] [] tysX_ok mixed Tryz.func4 rfl (by kernel_rfl) Tryz.ntmps4 rfl rfl ?_
  repeat' ((conv => whnf); first | refine Ob.g ?_ | refine Cases.y ?_ | refine Cases.n ?_ | refine Idx.g rfl ?_ | refine Idx.z rfl ?_ | refine DrawOb.start ?_ | refine TryF.f ?_ | refine TryF.next rfl ?_ | refine TryF.other ?_ | refine TryA.g ?_ | refine TryA.next rfl ?_ | refine TryA.other ?_ | refine TryS.g ?_ | refine TryS.next rfl ?_ | refine TryS.other ?_ | refine TryG.g ?_ | refine TryG.next rfl ?_ | refine Sp.g (s1) ?_ | refine Sp.g (s2) ?_ | refine Sp.g (s3) ?_ | refine Sp.g (s4) ?_)
  refine ⟨⟨_, _, rfl, rfl, ?_⟩⟩
  exact AvLe.bool rfl
end Go.Proofs.YtedfcemebdlgfaaGreatDoor

