/- A region that draws its order, met operation by operation: each operation has a fact, shown from the facts of those that it waits for; no order is tried. -/
import Derived.Orders
import Derived.Laws.World
namespace Go

theorem ready_mem {md : Region.Mode} {ops : Array Oper} {listed : Array Bool} {i : Nat} (h : i ∈ Region.ready md ops listed) :
    i < ops.size ∧ listed.getD i true = false ∧ ∀ o, ops[i]? = some o → ∀ e ∈ o.after, Region.binds md e = true → listed.getD e.on false = true := by
  unfold Region.ready at h
  rw [List.mem_filter, List.mem_range] at h
  obtain ⟨h1, h2⟩ := h
  rw [Bool.and_eq_true, Bool.not_eq_true'] at h2
  refine ⟨h1, h2.1, fun o ho e he hb => ?_⟩
  have h3 := h2.2
  rw [ho] at h3
  simp only [Option.map_some, Option.getD_some] at h3
  rw [Array.all_eq_true_iff_forall_mem] at h3
  have := h3 e he
  rw [hb] at this
  simpa using this
theorem ready_nil {md : Region.Mode} {ops : Array Oper} {listed : Array Bool} (h : ∀ i, i < ops.size → listed.getD i true = true) : Region.ready md ops listed = [] := by
  unfold Region.ready
  rw [List.filter_eq_nil_iff]
  intro i hi
  rw [h i (List.mem_range.1 hi)]
  simp
/-- each edge goes back -/
def Region.backward (md : Region.Mode) (ops : Array Oper) : Bool := (List.range ops.size).all fun i => ((ops[i]?).map fun o => o.after.all fun e => !Region.binds md e || decide (e.on < i)).getD true
theorem ready_some {md : Region.Mode} {ops : Array Oper} {listed : Array Bool} (hbk : Region.backward md ops = true) (hr : Region.ready md ops listed = []) : ∀ i, i < ops.size → listed.getD i true = true := by
  intro i
  induction i using Nat.strongRecOn with
  | _ i ih =>
    intro hi
    cases hl : listed.getD i true with
    | true => rfl
    | false =>
      exfalso
      have hmem : i ∈ Region.ready md ops listed := by
        unfold Region.ready
        rw [List.mem_filter, List.mem_range]
        refine ⟨hi, ?_⟩
        rw [hl]
        have ho : ops[i]? = some ops[i] := Array.getElem?_eq_getElem hi
        rw [ho]
        simp only [Bool.not_false, Bool.true_and, Option.map_some, Option.getD_some]
        rw [Array.all_eq_true_iff_forall_mem]
        intro e he
        cases hbd : Region.binds md e with
        | false => simp
        | true =>
        have h1 : e.on < i := by
          have := hbk
          unfold Region.backward at this
          rw [List.all_eq_true] at this
          have := this i (List.mem_range.2 hi)
          rw [ho] at this
          simp only [Option.map_some, Option.getD_some] at this
          rw [Array.all_eq_true_iff_forall_mem] at this
          have := this e he
          rw [hbd] at this
          simpa using this
        have h2 := ih e.on h1 (by omega)
        have h3 : listed.getD e.on false = true := by
          unfold Array.getD at h2 ⊢
          split at h2
          · next h => rw [dif_pos h]; exact h2
          · next h =>
            exfalso
            have hsz : listed.size ≤ e.on := by omega
            unfold Array.getD at hl
            split at hl
            · omega
            · cases hl
        rw [h3]
        simp
      rw [hr] at hmem
      cases hmem
theorem wpAny_facts {P : Program} {ops : Array Oper} {Q : Exit → Act → World → Prop} {md : Region.Mode} (hbk : Region.backward md ops = true) (F : Nat → Act → World → Prop) (B : Act → World → Prop)
    (step : ∀ i a w, i < ops.size → B a w → (∀ o, ops[i]? = some o → ∀ e ∈ o.after, Region.binds md e = true → F e.on a w) → wpOp P ops Q i (fun a' w' => B a' w' ∧ F i a' w' ∧ ∀ j, j ≠ i → F j a w → F j a' w') a w)
    (done : ∀ a w, B a w → (∀ i, i < ops.size → F i a w) → Q .normal a w) :
    ∀ (fuel : Nat) (listed : Array Bool) (a : Act) (w : World), listed.size = ops.size → B a w → (∀ i, listed.getD i false = true → F i a w) → (List.range ops.size).countP (fun i => !listed.getD i true) ≤ fuel → wpAny P md ops Q fuel listed a w
  | 0, listed, a, w, hs, hB, hF, hc => by
    have hall : ∀ i, i < ops.size → listed.getD i true = true := fun i hi => by
      have h0 : (List.range ops.size).countP (fun i => !listed.getD i true) = 0 := by omega
      have := (List.countP_eq_zero.1 h0) i (List.mem_range.2 hi)
      simpa using this
    refine ⟨ready_nil hall, done a w hB fun i hi => hF i ?_⟩
    have := hall i hi
    unfold Array.getD at this ⊢
    split at this
    · next h => rw [dif_pos h]; exact this
    · omega
  | fuel + 1, listed, a, w, hs, hB, hF, hc => by
    refine ⟨fun hr => ?_, fun i hi => ?_⟩
    · have hall := ready_some hbk hr
      refine done a w hB fun i hi => hF i ?_
      have := hall i hi
      unfold Array.getD at this ⊢
      split at this
      · next h => rw [dif_pos h]; exact this
      · omega
    · obtain ⟨h1, h2, h3⟩ := ready_mem hi
      refine wpOp_mono ?_ (step i a w h1 hB fun o ho e he hb => hF _ (h3 o ho e he hb))
      rintro a' w' ⟨hB', hFi, hF'⟩
      refine wpAny_facts hbk F B step done fuel _ a' w' (by simpa using hs) hB' (fun j hj => ?_) ?_
      · by_cases hji : j = i
        · subst hji; exact hFi
        · refine hF' j hji (hF j ?_)
          have e : (listed.setIfInBounds i true).getD j false = listed.getD j false := by
            unfold Array.getD
            simp only [Array.size_setIfInBounds]
            split
            · simp only [Array.getInternal_eq_getElem]
              rw [Array.getElem_setIfInBounds_ne _ (fun h => hji h.symm)]
            · rfl
          rwa [e] at hj
      · have hlt : i < listed.size := by omega
        have hle : (List.range ops.size).countP (fun j => !(listed.setIfInBounds i true).getD j true) + 1 ≤ (List.range ops.size).countP (fun j => !listed.getD j true) := by
          have hsplit : ∀ (l : List Nat), l.Nodup → i ∈ l → l.countP (fun j => !(listed.setIfInBounds i true).getD j true) + 1 ≤ l.countP (fun j => !listed.getD j true) := by
            have hle : ∀ j, (!(listed.setIfInBounds i true).getD j true) = true → (!listed.getD j true) = true := fun j hj => by
              by_cases hji : j = i
              · subst hji
                exfalso
                unfold Array.getD at hj
                simp only [Array.size_setIfInBounds] at hj
                rw [dif_pos hlt] at hj
                simp at hj
              · have e : (listed.setIfInBounds i true).getD j true = listed.getD j true := by
                  unfold Array.getD
                  simp only [Array.size_setIfInBounds]
                  split
                  · simp only [Array.getInternal_eq_getElem]
                    rw [Array.getElem_setIfInBounds_ne _ (fun h => hji h.symm)]
                  · rfl
                rwa [e] at hj
            have hi0 : (!(listed.setIfInBounds i true).getD i true) = false := by
              unfold Array.getD
              simp only [Array.size_setIfInBounds]
              rw [dif_pos hlt]
              simp
            have hi1 : (!listed.getD i true) = true := by rw [h2]; rfl
            intro l hn hm
            induction l with
            | nil => cases hm
            | cons x l ih =>
              rcases List.mem_cons.1 hm with h | h
              · subst h
                rw [List.countP_cons_of_neg (by rw [hi0]; simp), List.countP_cons_of_pos (p := fun j => !listed.getD j true) hi1]
                have := List.countP_mono_left (l := l) (fun j _ => hle j)
                omega
              · have hxi : x ≠ i := fun hx => (List.nodup_cons.1 hn).1 (hx ▸ h)
                have ih := ih (List.nodup_cons.1 hn).2 h
                rw [List.countP_cons, List.countP_cons]
                have hx := hle x
                split <;> split
                · omega
                · next a b => exact absurd (hx a) b
                · omega
                · omega
          exact hsplit _ List.nodup_range (List.mem_range.2 h1)
        omega
/-- A region that draws its order: B holds throughout; F i holds behind operation i and is kept by the others. -/
theorem wp_region_facts {P : Program} {ops : Array Oper} {Q : Exit → Act → World → Prop} {id : Nat} {a : Act} {w : World} (hm : P.follows .mixedOrders = true) (hbk : Region.backward .any ops = true) (F : Nat → Act → World → Prop) (B : Act → World → Prop) (h0 : B a w.drew)
    (step : ∀ i a w, i < ops.size → B a w → (∀ o, ops[i]? = some o → ∀ e ∈ o.after, Region.binds .any e = true → F e.on a w) → wpOp P ops Q i (fun a' w' => B a' w' ∧ F i a' w' ∧ ∀ j, j ≠ i → F j a w → F j a' w') a w)
    (done : ∀ a w, B a w → (∀ i, i < ops.size → F i a w) → Q .normal a w) : (Code.region id ops true).wp P Q a w := by
  refine wp_region_any hm (wpAny_facts hbk F B step done ops.size _ a _ (by simp) h0 (fun i hi => ?_) ?_)
  · exfalso
    unfold Array.getD at hi
    split at hi
    · simp at hi
    · cases hi
  · exact Nat.le_trans List.countP_le_length (by simp)
end Go
