/- Own texts joined: RegA, RegB. -/
import Derived.Orders
import Derived.Laws.World
import Derived.StillTail
/- A region that draws its order, met operation by operation: each operation has a fact, shown from the facts of those that it waits for; no order is tried. -/
namespace Go

theorem ready_mem {md : Region.Mode} {ops : Array Oper} {listed : Array Bool} {i : Nat} (h : i ∈ Region.ready md ops listed) :
    i < ops.size ∧ listed.getD i true = false ∧ ∀ o, ops[i]? = some o → ∀ e ∈ o.after, Region.binds md e = true → listed.getD e.on false = true := by
  unfold Region.ready at h
  rw [List.mem_filter, List.mem_range] at h
  obtain ⟨h1, h2⟩ := h
  rw [Bool.and_eq_true, Bool.not_eq_true'] at h2
  refine ⟨h1, h2.1, fun o ho e he hb => ?_⟩
  have h3 := h2.2
  rw [ho] at h3
  simp only [Option.map_some, Option.getD_some] at h3
  rw [Array.all_eq_true_iff_forall_mem] at h3
  have := h3 e he
  rw [hb] at this
  simpa using this
theorem ready_nil {md : Region.Mode} {ops : Array Oper} {listed : Array Bool} (h : ∀ i, i < ops.size → listed.getD i true = true) : Region.ready md ops listed = [] := by
  unfold Region.ready
  rw [List.filter_eq_nil_iff]
  intro i hi
  rw [h i (List.mem_range.1 hi)]
  simp
/-- each edge goes back -/
def Region.backward (md : Region.Mode) (ops : Array Oper) : Bool := (List.range ops.size).all fun i => ((ops[i]?).map fun o => o.after.all fun e => !Region.binds md e || decide (e.on < i)).getD true
theorem ready_some {md : Region.Mode} {ops : Array Oper} {listed : Array Bool} (hbk : Region.backward md ops = true) (hr : Region.ready md ops listed = []) : ∀ i, i < ops.size → listed.getD i true = true := by
  intro i
  induction i using Nat.strongRecOn with
  | _ i ih =>
    intro hi
    cases hl : listed.getD i true with
    | true => rfl
    | false =>
      exfalso
      have hmem : i ∈ Region.ready md ops listed := by
        unfold Region.ready
        rw [List.mem_filter, List.mem_range]
        refine ⟨hi, ?_⟩
        rw [hl]
        have ho : ops[i]? = some ops[i] := Array.getElem?_eq_getElem hi
        rw [ho]
        simp only [Bool.not_false, Bool.true_and, Option.map_some, Option.getD_some]
        rw [Array.all_eq_true_iff_forall_mem]
        intro e he
        cases hbd : Region.binds md e with
        | false => simp
        | true =>
        have h1 : e.on < i := by
          have := hbk
          unfold Region.backward at this
          rw [List.all_eq_true] at this
          have := this i (List.mem_range.2 hi)
          rw [ho] at this
          simp only [Option.map_some, Option.getD_some] at this
          rw [Array.all_eq_true_iff_forall_mem] at this
          have := this e he
          rw [hbd] at this
          simpa using this
        have h2 := ih e.on h1 (by omega)
        have h3 : listed.getD e.on false = true := by
          unfold Array.getD at h2 ⊢
          split at h2
          · next h => rw [dif_pos h]; exact h2
          · next h =>
            exfalso
            have hsz : listed.size ≤ e.on := by omega
            unfold Array.getD at hl
            split at hl
            · omega
            · cases hl
        rw [h3]
        simp
      rw [hr] at hmem
      cases hmem
theorem wpAny_facts {P : Program} {ops : Array Oper} {Q : Exit → Act → World → Prop} {md : Region.Mode} (hbk : Region.backward md ops = true) (F : Nat → Act → World → Prop) (B : Act → World → Prop)
    (step : ∀ i a w, i < ops.size → B a w → (∀ o, ops[i]? = some o → ∀ e ∈ o.after, Region.binds md e = true → F e.on a w) → wpOp P ops Q i (fun a' w' => B a' w' ∧ F i a' w' ∧ ∀ j, j ≠ i → F j a w → F j a' w') a w)
    (done : ∀ a w, B a w → (∀ i, i < ops.size → F i a w) → Q .normal a w) :
    ∀ (fuel : Nat) (listed : Array Bool) (a : Act) (w : World), listed.size = ops.size → B a w → (∀ i, listed.getD i false = true → F i a w) → (List.range ops.size).countP (fun i => !listed.getD i true) ≤ fuel → wpAny P md ops Q fuel listed a w
  | 0, listed, a, w, hs, hB, hF, hc => by
    have hall : ∀ i, i < ops.size → listed.getD i true = true := fun i hi => by
      have h0 : (List.range ops.size).countP (fun i => !listed.getD i true) = 0 := by omega
      have := (List.countP_eq_zero.1 h0) i (List.mem_range.2 hi)
      simpa using this
    refine ⟨ready_nil hall, done a w hB fun i hi => hF i ?_⟩
    have := hall i hi
    unfold Array.getD at this ⊢
    split at this
    · next h => rw [dif_pos h]; exact this
    · omega
  | fuel + 1, listed, a, w, hs, hB, hF, hc => by
    refine ⟨fun hr => ?_, fun i hi => ?_⟩
    · have hall := ready_some hbk hr
      refine done a w hB fun i hi => hF i ?_
      have := hall i hi
      unfold Array.getD at this ⊢
      split at this
      · next h => rw [dif_pos h]; exact this
      · omega
    · obtain ⟨h1, h2, h3⟩ := ready_mem hi
      refine wpOp_mono ?_ (step i a w h1 hB fun o ho e he hb => hF _ (h3 o ho e he hb))
      rintro a' w' ⟨hB', hFi, hF'⟩
      refine wpAny_facts hbk F B step done fuel _ a' w' (by simpa using hs) hB' (fun j hj => ?_) ?_
      · by_cases hji : j = i
        · subst hji; exact hFi
        · refine hF' j hji (hF j ?_)
          have e : (listed.setIfInBounds i true).getD j false = listed.getD j false := by
            unfold Array.getD
            simp only [Array.size_setIfInBounds]
            split
            · simp only [Array.getInternal_eq_getElem]
              rw [Array.getElem_setIfInBounds_ne _ (fun h => hji h.symm)]
            · rfl
          rwa [e] at hj
      · have hlt : i < listed.size := by omega
        have hle : (List.range ops.size).countP (fun j => !(listed.setIfInBounds i true).getD j true) + 1 ≤ (List.range ops.size).countP (fun j => !listed.getD j true) := by
          have hsplit : ∀ (l : List Nat), l.Nodup → i ∈ l → l.countP (fun j => !(listed.setIfInBounds i true).getD j true) + 1 ≤ l.countP (fun j => !listed.getD j true) := by
            have hle : ∀ j, (!(listed.setIfInBounds i true).getD j true) = true → (!listed.getD j true) = true := fun j hj => by
              by_cases hji : j = i
              · subst hji
                exfalso
                unfold Array.getD at hj
                simp only [Array.size_setIfInBounds] at hj
                rw [dif_pos hlt] at hj
                simp at hj
              · have e : (listed.setIfInBounds i true).getD j true = listed.getD j true := by
                  unfold Array.getD
                  simp only [Array.size_setIfInBounds]
                  split
                  · simp only [Array.getInternal_eq_getElem]
                    rw [Array.getElem_setIfInBounds_ne _ (fun h => hji h.symm)]
                  · rfl
                rwa [e] at hj
            have hi0 : (!(listed.setIfInBounds i true).getD i true) = false := by
              unfold Array.getD
              simp only [Array.size_setIfInBounds]
              rw [dif_pos hlt]
              simp
            have hi1 : (!listed.getD i true) = true := by rw [h2]; rfl
            intro l hn hm
            induction l with
            | nil => cases hm
            | cons x l ih =>
              rcases List.mem_cons.1 hm with h | h
              · subst h
                rw [List.countP_cons_of_neg (by rw [hi0]; simp), List.countP_cons_of_pos (p := fun j => !listed.getD j true) hi1]
                have := List.countP_mono_left (l := l) (fun j _ => hle j)
                omega
              · have hxi : x ≠ i := fun hx => (List.nodup_cons.1 hn).1 (hx ▸ h)
                have ih := ih (List.nodup_cons.1 hn).2 h
                rw [List.countP_cons, List.countP_cons]
                have hx := hle x
                split <;> split
                · omega
                · next a b => exact absurd (hx a) b
                · omega
                · omega
          exact hsplit _ List.nodup_range (List.mem_range.2 h1)
        omega
/-- A region that draws its order: B holds throughout; F i holds behind operation i and is kept by the others. -/
theorem wp_region_facts {P : Program} {ops : Array Oper} {Q : Exit → Act → World → Prop} {id : Nat} {a : Act} {w : World} (hm : P.follows .mixedOrders = true) (hbk : Region.backward .any ops = true) (F : Nat → Act → World → Prop) (B : Act → World → Prop) (h0 : B a w.drew)
    (step : ∀ i a w, i < ops.size → B a w → (∀ o, ops[i]? = some o → ∀ e ∈ o.after, Region.binds .any e = true → F e.on a w) → wpOp P ops Q i (fun a' w' => B a' w' ∧ F i a' w' ∧ ∀ j, j ≠ i → F j a w → F j a' w') a w)
    (done : ∀ a w, B a w → (∀ i, i < ops.size → F i a w) → Q .normal a w) : (Code.region id ops true).wp P Q a w := by
  refine wp_region_any hm (wpAny_facts hbk F B step done ops.size _ a _ (by simp) h0 (fun i hi => ?_) ?_)
  · exfalso
    unfold Array.getD at hi
    split at hi
    · simp at hi
    · cases hi
  · exact Nat.le_trans List.countP_le_length (by simp)
end Go

/- A region that draws its order and ends in a forced tail: the head met operation by operation (a fact for each), the tail walked once. -/
namespace Go

theorem countP_one {l : List Nat} {p q : Nat → Bool} {i : Nat} (hn : l.Nodup) (hi : i ∈ l) (h1 : p i = true) (h2 : q i = false) (h3 : ∀ j, j ≠ i → q j = p j) : l.countP p = l.countP q + 1 := by
  induction l with
  | nil => cases hi
  | cons x l ih =>
    rcases List.mem_cons.1 hi with h | h
    · subst h
      have hno : i ∉ l := (List.nodup_cons.1 hn).1
      have he : l.countP q = l.countP p := List.countP_congr fun j hj => by rw [h3 j (fun h => hno (h ▸ hj))]
      rw [List.countP_cons_of_pos h1, List.countP_cons_of_neg (by rw [h2]; simp), he]
    · have hxi : x ≠ i := fun hx => (List.nodup_cons.1 hn).1 (hx ▸ h)
      rw [List.countP_cons, List.countP_cons, ih (List.nodup_cons.1 hn).2 h, h3 x hxi]
      omega
/-- the first n are done -/
def headDone (n size : Nat) : Array Bool := Array.replicate n true ++ Array.replicate (size - n) false
theorem headDone_eq {md : Region.Mode} {ops : Array Oper} {n : Nat} {listed : Array Bool} (inv : HeadInv md ops n listed) (hn : n ≤ ops.size) (hall : ∀ i, i < n → listed.getD i true = true) : listed = headDone n ops.size := by
  have hsz := inv.size
  apply Array.ext
  · simp [headDone]; omega
  · intro i h1 h2
    by_cases hi : i < n
    · have h3 := hall i hi
      unfold Array.getD at h3
      rw [dif_pos h1] at h3
      simp only [Array.getInternal_eq_getElem] at h3
      rw [h3]
      have : (headDone n ops.size)[i]? = some true := by
        unfold headDone
        rw [Array.getElem?_append_left (by simpa using hi)]
        simp [hi]
      exact (Option.some.inj ((Array.getElem?_eq_getElem h2).symm.trans this)).symm
    · have h3 := inv.tail i (by omega) (by omega)
      unfold Array.getD at h3
      rw [dif_pos h1] at h3
      simp only [Array.getInternal_eq_getElem] at h3
      rw [h3]
      have : (headDone n ops.size)[i]? = some false := by
        unfold headDone
        rw [Array.getElem?_append_right (by simp; omega), Array.getElem?_replicate, if_pos (by rw [Array.size_replicate]; omega)]
      exact (Option.some.inj ((Array.getElem?_eq_getElem h2).symm.trans this)).symm
theorem getD_set_other {listed : Array Bool} {i j : Nat} {d : Bool} (h : j ≠ i) : (listed.setIfInBounds i true).getD j d = listed.getD j d := by
  unfold Array.getD
  simp only [Array.size_setIfInBounds]
  split
  · simp only [Array.getInternal_eq_getElem]
    rw [Array.getElem_setIfInBounds_ne _ (fun h' => h h'.symm)]
  · rfl
theorem getD_set_at {listed : Array Bool} {i : Nat} (h : i < listed.size) : (listed.setIfInBounds i true).getD i true = true := by
  unfold Array.getD
  simp only [Array.size_setIfInBounds]
  rw [dif_pos h]
  simp
theorem wpAny_facts_tail {P : Program} {ops : Array Oper} {Q : Exit → Act → World → Prop} {md : Region.Mode} {n g : Nat} (hg : n + g = ops.size) (hg0 : 0 < g) (hs : Region.sinkB md ops n = true) (hc : Region.chainB md ops n = true) (hbk : Region.backward md ops = true)
    (F : Nat → Act → World → Prop) (B : Act → World → Prop)
    (step : ∀ i a w, i < n → B a w → (∀ o, ops[i]? = some o → ∀ e ∈ o.after, Region.binds md e = true → F e.on a w) → wpOp P ops Q i (fun a' w' => B a' w' ∧ F i a' w' ∧ ∀ j, j < n → j ≠ i → F j a w → F j a' w') a w)
    (done : ∀ a w, B a w → (∀ i, i < n → F i a w) → wpAny P md ops Q g (headDone n ops.size) a w) :
    ∀ (k : Nat) (listed : Array Bool) (a : Act) (w : World), HeadInv md ops n listed → B a w → (∀ i, i < n → listed.getD i false = true → F i a w) → (List.range n).countP (fun i => !listed.getD i true) = k → wpAny P md ops Q (k + g) listed a w
  | 0, listed, a, w, inv, hB, hF, hk => by
    have hall : ∀ i, i < n → listed.getD i true = true := fun i hi => by
      have := (List.countP_eq_zero.1 hk) i (List.mem_range.2 hi)
      simpa using this
    have hsz := inv.size
    rw [Nat.zero_add, headDone_eq inv (by omega) hall]
    refine done a w hB fun i hi => hF i hi ?_
    have := hall i hi
    unfold Array.getD at this ⊢
    have hi' : i < listed.size := by omega
    rw [dif_pos hi'] at this ⊢
    exact this
  | k + 1, listed, a, w, inv, hB, hF, hk => by
    have hsz := inv.size
    obtain ⟨i0, h0, h1⟩ : ∃ i0, i0 < n ∧ listed.getD i0 true = false := by
      have hpos : 0 < (List.range n).countP (fun i => !listed.getD i true) := by omega
      obtain ⟨i0, hm, hp⟩ := List.countP_pos_iff.1 hpos
      exact ⟨i0, List.mem_range.1 hm, by simpa using hp⟩
    rw [show k + 1 + g = (k + g) + 1 by omega]
    refine ⟨fun hr => ?_, fun i hi => ?_⟩
    · have := ready_some hbk hr i0 (by omega)
      rw [this] at h1
      cases h1
    · have hin : i < n := by
        rcases Nat.lt_or_ge i n with h | h
        · exact h
        · exact absurd hi (tail_waits hs hc (by omega) inv _ i0 rfl h0 h1 i h)
      obtain ⟨h2, h3, h4⟩ := ready_mem hi
      refine wpOp_mono ?_ (step i a w hin hB fun o ho e he hb => hF _ ?_ (h4 o ho e he hb))
      · rintro a' w' ⟨hB', hFi, hF'⟩
        refine wpAny_facts_tail hg hg0 hs hc hbk F B step done k _ a' w' (inv.set hi hin) hB' (fun j hj hl => ?_) ?_
        · by_cases hji : j = i
          · subst hji; exact hFi
          · exact hF' j hj hji (hF j hj (by rwa [getD_set_other hji] at hl))
        · have := countP_one (p := fun j => !listed.getD j true) (q := fun j => !(listed.setIfInBounds i true).getD j true) List.nodup_range (List.mem_range.2 hin) (by rw [h3]; rfl) (by rw [getD_set_at (by omega)]; rfl) (fun j hj => by rw [getD_set_other hj])
          omega
      · have h5 : e.on < i := by
          have h6 := hbk
          unfold Region.backward at h6
          rw [List.all_eq_true] at h6
          have h6 := h6 i (List.mem_range.2 h2)
          rw [ho] at h6
          simp only [Option.map_some, Option.getD_some] at h6
          rw [Array.all_eq_true_iff_forall_mem] at h6
          have h6 := h6 e he
          rw [hb] at h6
          simpa using h6
        omega
theorem seq_size {P : Program} {l : List Oper} {Q : Exit → Act → World → Prop} {n : Nat} (hB : Region.seqB .any l.toArray (l.length - n) n (headDone n l.length) = true) {a : Act} {w : World} (h : wpList P l.toArray Q (l.drop n) a w) : wpAny P .any l.toArray Q (l.length - n) (headDone n l.toArray.size) a w := by
  have hdl : (l.drop n).length = l.length - n := List.length_drop
  have := wpAny_of_seq (md := .any) (P := P) (ops := l.toArray) (Q' := Q) (l.drop n) n (headDone n l.length) a w (fun j => by simp [List.getElem?_drop]) (by rw [hdl]; exact hB) h
  rw [hdl] at this
  simpa using this
/-- the boolean conditions, to be reckoned -/
def Region.factsB (l : List Oper) (n : Nat) : Bool :=
  decide (n < l.length) && Region.sinkB .any l.toArray n && Region.chainB .any l.toArray n && Region.backward .any l.toArray && Region.seqB .any l.toArray (l.length - n) n (headDone n l.length)
/-- A region that draws its order: B holds throughout the head; F i holds behind operation i and is kept by the head's others; the tail (from n on) is forced. -/
theorem wp_region_facts_tail {P : Program} {l : List Oper} {Q : Exit → Act → World → Prop} {id : Nat} {a : Act} {w : World} (n : Nat) (hm : P.follows .mixedOrders = true) (hb : Region.factsB l n = true)
    (F : Nat → Act → World → Prop) (B : Act → World → Prop) (h0 : B a w.drew)
    (step : ∀ i a w, i < n → B a w → (∀ o, l.toArray[i]? = some o → ∀ e ∈ o.after, Region.binds .any e = true → F e.on a w) → wpOp P l.toArray Q i (fun a' w' => B a' w' ∧ F i a' w' ∧ ∀ j, j < n → j ≠ i → F j a w → F j a' w') a w)
    (done : ∀ a w, B a w → (∀ i, i < n → F i a w) → wpList P l.toArray Q (l.drop n) a w) : (Code.region id l.toArray true).wp P Q a w := by
  unfold Region.factsB at hb
  simp only [Bool.and_eq_true, decide_eq_true_eq] at hb
  obtain ⟨⟨⟨⟨hn, hs⟩, hc⟩, hbk⟩, hseq⟩ := hb
  refine wp_region_any hm ?_
  have hsz : l.toArray.size = l.length := by simp
  have key := wpAny_facts_tail (P := P) (Q := Q) (md := .any) (n := n) (g := l.length - n) (by rw [hsz]; omega) (by omega) hs hc hbk F B step (fun a w hB hF => seq_size hseq (done a w hB hF)) n (Array.replicate l.toArray.size false) a w.drew
    ⟨by simp, fun j oj _ hl => (by rw [getD_replicate_false] at hl; cases hl), fun t _ ht => getD_in (by simpa using ht) (getD_replicate_false _ _)⟩ h0 (fun i _ hl => by rw [getD_replicate_false] at hl; cases hl)
    (by
      rw [List.countP_eq_length.2 fun i hi => ?_, List.length_range]
      have : i < l.toArray.size := by have := List.mem_range.1 hi; omega
      rw [getD_in (by simpa using this) (getD_replicate_false _ _)]
      rfl)
  rw [show n + (l.length - n) = l.toArray.size by rw [hsz]; omega] at key
  exact key
end Go

