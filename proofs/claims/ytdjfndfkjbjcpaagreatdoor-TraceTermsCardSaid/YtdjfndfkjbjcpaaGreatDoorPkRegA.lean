/- Own texts joined: RegA, RegB. -/
import Derived.Orders
import Derived.Laws.World
import Derived.StillTail
/- A region that draws its order, met operation by operation: each operation has a fact, shown from the facts of those that it waits for; no order is tried. -/
namespace Go

theorem ready_mem {md : Region.Mode} {ops : Array Oper} {listed : Array Bool} {i : Nat} (h : i ∈ Region.ready md ops listed) :
    i < ops.size ∧ listed.getD i true = false ∧ ∀ o, ops[i]? = some o → ∀ e ∈ o.after, Region.binds md e = true → listed.getD e.on false = true := by
  unfold Region.ready at h
  rw [List.mem_filter, List.mem_range] at h
  obtain ⟨h1, h2⟩ := h
  rw [Bool.and_eq_true, Bool.not_eq_true'] at h2
  refine ⟨h1, h2.1, fun o ho e he hb => ?_⟩
  have h3 := h2.2
  rw [ho] at h3
  simp only [Option.map_some, Option.getD_some] at h3
  rw [Array.all_eq_true_iff_forall_mem] at h3
  have := h3 e he
  rw [hb] at this
  simpa using this
theorem ready_nil {md : Region.Mode} {ops : Array Oper} {listed : Array Bool} (h : ∀ i, i < ops.size → listed.getD i true = true) : Region.ready md ops listed = [] := by
  unfold Region.ready
  rw [List.filter_eq_nil_iff]
  intro i hi
  rw [h i (List.mem_range.1 hi)]
  simp
def Region.backward (md : Region.Mode) (ops : Array Oper) : Bool := (List.range ops.size).all fun i => ((ops[i]?).map fun o => o.after.all fun e => !Region.binds md e || decide (e.on < i)).getD true
theorem ready_some {md : Region.Mode} {ops : Array Oper} {listed : Array Bool} (hbk : Region.backward md ops = true) (hr : Region.ready md ops listed = []) : ∀ i, i < ops.size → listed.getD i true = true := by
  intro i
  induction i using Nat.strongRecOn with
  | _ i ih =>
    intro hi
    cases hl : listed.getD i true with
    | true => rfl
    | false =>
      exfalso
      have hmem : i ∈ Region.ready md ops listed := by
        unfold Region.ready
        rw [List.mem_filter, List.mem_range]
        refine ⟨hi, ?_⟩
        rw [hl]
        have ho : ops[i]? = some ops[i] := Array.getElem?_eq_getElem hi
        rw [ho]
        simp only [Bool.not_false, Bool.true_and, Option.map_some, Option.getD_some]
        rw [Array.all_eq_true_iff_forall_mem]
        intro e he
        cases hbd : Region.binds md e with
        | false => simp
        | true =>
        have h1 : e.on < i := by
          have := hbk
          unfold Region.backward at this
          rw [List.all_eq_true] at this
          have := this i (List.mem_range.2 hi)
          rw [ho] at this
          simp only [Option.map_some, Option.getD_some] at this
          rw [Array.all_eq_true_iff_forall_mem] at this
          have := this e he
          rw [hbd] at this
          simpa using this
        have h2 := ih e.on h1 (by omega)
        have h3 : listed.getD e.on false = true := by
          unfold Array.getD at h2 ⊢
          split at h2
          · next h => rw [dif_pos h]; exact h2
          · next h =>
            exfalso
            have hsz : listed.size ≤ e.on := by omega
            unfold Array.getD at hl
            split at hl
            · omega
            · cases hl
        rw [h3]
        simp
      rw [hr] at hmem
      cases hmem
end Go

/- A region that draws its order and ends in a forced tail: the head met operation by operation (a fact for each), the tail walked once. -/
namespace Go

theorem countP_one {l : List Nat} {p q : Nat → Bool} {i : Nat} (hn : l.Nodup) (hi : i ∈ l) (h1 : p i = true) (h2 : q i = false) (h3 : ∀ j, j ≠ i → q j = p j) : l.countP p = l.countP q + 1 := by
  induction l with
  | nil => cases hi
  | cons x l ih =>
    rcases List.mem_cons.1 hi with h | h
    · subst h
      have hno : i ∉ l := (List.nodup_cons.1 hn).1
      have he : l.countP q = l.countP p := List.countP_congr fun j hj => by rw [h3 j (fun h => hno (h ▸ hj))]
      rw [List.countP_cons_of_pos h1, List.countP_cons_of_neg (by rw [h2]; simp), he]
    · have hxi : x ≠ i := fun hx => (List.nodup_cons.1 hn).1 (hx ▸ h)
      rw [List.countP_cons, List.countP_cons, ih (List.nodup_cons.1 hn).2 h, h3 x hxi]
      omega
def headDone (n size : Nat) : Array Bool := Array.replicate n true ++ Array.replicate (size - n) false
theorem headDone_eq {md : Region.Mode} {ops : Array Oper} {n : Nat} {listed : Array Bool} (inv : HeadInv md ops n listed) (hn : n ≤ ops.size) (hall : ∀ i, i < n → listed.getD i true = true) : listed = headDone n ops.size := by
  have hsz := inv.size
  apply Array.ext
  · simp [headDone]; omega
  · intro i h1 h2
    by_cases hi : i < n
    · have h3 := hall i hi
      unfold Array.getD at h3
      rw [dif_pos h1] at h3
      simp only [Array.getInternal_eq_getElem] at h3
      rw [h3]
      have : (headDone n ops.size)[i]? = some true := by
        unfold headDone
        rw [Array.getElem?_append_left (by simpa using hi)]
        simp [hi]
      exact (Option.some.inj ((Array.getElem?_eq_getElem h2).symm.trans this)).symm
    · have h3 := inv.tail i (by omega) (by omega)
      unfold Array.getD at h3
      rw [dif_pos h1] at h3
      simp only [Array.getInternal_eq_getElem] at h3
      rw [h3]
      have : (headDone n ops.size)[i]? = some false := by
        unfold headDone
        rw [Array.getElem?_append_right (by simp; omega), Array.getElem?_replicate, if_pos (by rw [Array.size_replicate]; omega)]
      exact (Option.some.inj ((Array.getElem?_eq_getElem h2).symm.trans this)).symm
theorem getD_set_other {listed : Array Bool} {i j : Nat} {d : Bool} (h : j ≠ i) : (listed.setIfInBounds i true).getD j d = listed.getD j d := by
  unfold Array.getD
  simp only [Array.size_setIfInBounds]
  split
  · simp only [Array.getInternal_eq_getElem]
    rw [Array.getElem_setIfInBounds_ne _ (fun h' => h h'.symm)]
  · rfl
theorem getD_set_at {listed : Array Bool} {i : Nat} (h : i < listed.size) : (listed.setIfInBounds i true).getD i true = true := by
  unfold Array.getD
  simp only [Array.size_setIfInBounds]
  rw [dif_pos h]
  simp
theorem seq_size {P : Program} {l : List Oper} {Q : Exit → Act → World → Prop} {n : Nat} (hB : Region.seqB .any l.toArray (l.length - n) n (headDone n l.length) = true) {a : Act} {w : World} (h : wpList P l.toArray Q (l.drop n) a w) : wpAny P .any l.toArray Q (l.length - n) (headDone n l.toArray.size) a w := by
  have hdl : (l.drop n).length = l.length - n := List.length_drop
  have := wpAny_of_seq (md := .any) (P := P) (ops := l.toArray) (Q' := Q) (l.drop n) n (headDone n l.length) a w (fun j => by simp [List.getElem?_drop]) (by rw [hdl]; exact hB) h
  rw [hdl] at this
  simpa using this
def Region.factsB (l : List Oper) (n : Nat) : Bool :=
  decide (n < l.length) && Region.sinkB .any l.toArray n && Region.chainB .any l.toArray n && Region.backward .any l.toArray && Region.seqB .any l.toArray (l.length - n) n (headDone n l.length)
end Go

