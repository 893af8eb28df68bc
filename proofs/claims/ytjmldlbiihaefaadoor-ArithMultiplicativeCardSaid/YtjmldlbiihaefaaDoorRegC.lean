/- A region that draws its order: what each operation of the head makes is a value with a property that later memory keeps; the tail is walked once, with the values as letters. -/
import Derived.Below
import Derived.Laws.World
import Derived.Test.YtjmldlbiihaefaaDoorRegB
namespace Go

def putF (a : Act) : List Nat → Nat → (Nat → Value) → Act
  | [], _, _ => a
  | d :: ds, k, vs => putF (a.put (some d) (vs k)) ds (k + 1) vs
theorem putF_put {d : Nat} {v : Value} : ∀ {ds : List Nat} {a : Act} {k : Nat} {vs : Nat → Value}, d ∉ ds → (putF a ds k vs).put (some d) v = putF (a.put (some d) v) ds k vs
  | [], _, _, _, _ => rfl
  | e :: ds, a, k, vs, h => by
    have hne : e ≠ d := fun he => h (he ▸ List.mem_cons_self ..)
    rw [putF, putF_put (fun hm => h (List.mem_cons_of_mem _ hm)), putF]
    congr 1
    simp only [Act.put]
    rw [Array.setIfInBounds_comm _ _ hne]
theorem putF_congr : ∀ {ds : List Nat} {a : Act} {k : Nat} {vs us : Nat → Value}, (∀ i, k ≤ i → vs i = us i) → putF a ds k vs = putF a ds k us
  | [], _, _, _, _, _ => rfl
  | d :: ds, a, k, vs, us, h => by
    rw [putF, putF, h k (Nat.le_refl _), putF_congr fun i hi => h i (by omega)]
def updV (vs : Nat → Value) (i : Nat) (v : Value) : Nat → Value := fun j => if j = i then v else vs j
theorem updV_at (vs : Nat → Value) (i : Nat) (v : Value) : updV vs i v i = v := if_pos rfl
theorem updV_ne (vs : Nat → Value) {i j : Nat} (v : Value) (h : j ≠ i) : updV vs i v j = vs j := if_neg h
theorem putF_set : ∀ {ds : List Nat} {a : Act} {k j d : Nat} {vs : Nat → Value} {v : Value}, ds.Nodup → ds[j]? = some d → (putF a ds k vs).put (some d) v = putF a ds k (updV vs (k + j) v)
  | [], _, _, _, _, _, _, _, h => by cases h
  | e :: ds, a, k, 0, d, vs, v, hn, h => by
    cases h
    rw [putF, putF_put (List.nodup_cons.1 hn).1, putF]
    rw [show k + 0 = k from rfl, updV_at, putF_congr (us := updV vs k v) fun i hi => (updV_ne vs v (by omega)).symm]
    congr 1
    simp [Act.put]
  | e :: ds, a, k, j + 1, d, vs, v, hn, h => by
    have h' : ds[j]? = some d := h
    rw [putF, putF_set (List.nodup_cons.1 hn).2 h', putF, updV_ne _ _ (by omega), show k + 1 + j = k + (j + 1) by omega]
theorem putF_self : ∀ {ds : List Nat} {a : Act} {k : Nat} {vs : Nat → Value}, (∀ j d, ds[j]? = some d → d < a.tmps.size ∧ vs (k + j) = a.tmps.getD d undef) → putF a ds k vs = a
  | [], _, _, _, _ => rfl
  | d :: ds, a, k, vs, h => by
    have h0 := h 0 d rfl
    have e : a.put (some d) (vs k) = a := by
      rw [Nat.add_zero] at h0
      simp only [Act.put]
      have : a.tmps.setIfInBounds d (vs k) = a.tmps := by
        apply Array.ext
        · simp
        · intro i h1 h2
          by_cases hi : i = d
          · subst hi
            simp only [h0.2]
            simp [h2]
          · rw [Array.getElem_setIfInBounds_ne _ (fun h' => hi h'.symm)]
      rw [this]
    rw [putF, e]
    exact putF_self fun j d' hj => by
      have := h (j + 1) d' hj
      rwa [show k + 1 + j = k + (j + 1) by omega]
theorem putF_other {d : Nat} : ∀ {ds : List Nat} {a : Act} {k : Nat} {vs : Nat → Value}, d ∉ ds → (putF a ds k vs).tmps.getD d undef = a.tmps.getD d undef
  | [], _, _, _, _ => rfl
  | e :: ds, a, k, vs, h => by
    have hne : d ≠ e := fun he => h (he ▸ List.mem_cons_self ..)
    rw [putF, putF_other (fun hm => h (List.mem_cons_of_mem _ hm))]
    simp only [Act.put]
    unfold Array.getD
    simp only [Array.size_setIfInBounds]
    split
    · simp only [Array.getInternal_eq_getElem]
      rw [Array.getElem_setIfInBounds_ne _ (fun h' => hne h'.symm)]
    · rfl
theorem putF_at : ∀ {ds : List Nat} {a : Act} {k j d : Nat} {vs : Nat → Value}, ds.Nodup → ds[j]? = some d → d < a.tmps.size → (putF a ds k vs).tmps.getD d undef = vs (k + j)
  | [], _, _, _, _, _, _, h, _ => by cases h
  | e :: ds, a, k, 0, d, vs, hn, h, hd => by
    cases h
    rw [putF, putF_other (List.nodup_cons.1 hn).1]
    simp only [Act.put]
    unfold Array.getD
    simp only [Array.size_setIfInBounds]
    rw [dif_pos hd]
    simp
  | e :: ds, a, k, j + 1, d, vs, hn, h, hd => by
    have h' : ds[j]? = some d := h
    rw [putF, putF_at (List.nodup_cons.1 hn).2 h' (by simpa [Act.put] using hd), show k + 1 + j = k + (j + 1) by omega]

open Go.RowKit in
theorem wp_region_made {P : Program} {l : List Oper} {Q : Exit → Act → World → Prop} {id : Nat} {a : Act} {w : World} (n : Nat) (ds : List Nat) (hm : P.follows .mixedOrders = true) (hb : Region.factsB l n = true)
    (hds : (decide (ds.length = n) && decide ds.Nodup && ds.all fun d => decide (d < a.tmps.size)) = true)
    (B : (Nat → Value) → World → Prop) (G : Nat → Value → World → Prop) (hG : ∀ i v w w', Below w.heap.size w w' → G i v w → G i v w')
    (h0 : B (fun j => a.tmps.getD (ds.getD j 0) undef) w.drew)
    (step : ∀ i vs w, i < n → B vs w → (∀ j, Region.waitsFor .any l.toArray i j = true → G j (vs j) w) →
      wpOp P l.toArray Q i (fun a' w' => ∃ v, a' = (putF a ds 0 vs).put (some (ds.getD i 0)) v ∧ Below w.heap.size w w' ∧ G i v w' ∧ B (updV vs i v) w') (putF a ds 0 vs) w)
    (done : ∀ vs w, B vs w → (∀ i, i < n → G i (vs i) w) → wpList P l.toArray Q (l.drop n) (putF a ds 0 vs) w) : (Code.region id l.toArray true).wp P Q a w := by
  simp only [Bool.and_eq_true, decide_eq_true_eq, List.all_eq_true] at hds
  obtain ⟨⟨hlen, hnd⟩, hin⟩ := hds
  have hat : ∀ i, i < n → ds[i]? = some (ds.getD i 0) ∧ ds.getD i 0 < a.tmps.size := fun i hi => by
    have h1 : i < ds.length := by omega
    have e : ds.getD i 0 = ds[i] := by simp [h1]
    rw [e]
    exact ⟨List.getElem?_eq_getElem h1, hin _ (List.getElem_mem h1)⟩
  have hput : ∀ i vs, i < n → (putF a ds 0 vs).tmps.getD (ds.getD i 0) undef = vs i := fun i vs hi => by
    have := putF_at (k := 0) (vs := vs) hnd (hat i hi).1 (hat i hi).2
    rwa [Nat.zero_add] at this
  have hup : ∀ i vs v, i < n → (putF a ds 0 vs).put (some (ds.getD i 0)) v = putF a ds 0 (updV vs i v) := fun i vs v hi => by
    have := putF_set (a := a) (k := 0) (vs := vs) (v := v) hnd (hat i hi).1
    rwa [Nat.zero_add] at this
  refine wp_region_facts_tail n hm hb (fun i a' w' => i < n ∧ G i (a'.tmps.getD (ds.getD i 0) undef) w') (fun a' w' => ∃ vs, a' = putF a ds 0 vs ∧ B vs w') ⟨_, (putF_self fun j d hj => ?_).symm, h0⟩ ?_ ?_
  · obtain ⟨h1, h2⟩ := List.getElem?_eq_some_iff.1 hj
    refine ⟨hin d (h2 ▸ List.getElem_mem h1), ?_⟩
    rw [Nat.zero_add]
    congr 1
    simp [h1, h2]
  · rintro i a' w' hi ⟨vs, rfl, hB⟩ hdep
    refine wpOp_mono ?_ (step i vs w' hi hB fun j hj => ?_)
    · rintro a'' w'' ⟨v, rfl, hbel, hg, hB'⟩
      rw [hup i vs v hi]
      refine ⟨⟨_, rfl, hB'⟩, ⟨hi, by rw [hput i _ hi, updV_at]; exact hg⟩, fun j hj hji h => ⟨hj, ?_⟩⟩
      have h2 := h.2
      rw [hput j _ hj] at h2 ⊢
      rw [updV_ne _ _ hji]
      exact hG j _ _ _ hbel h2
    · obtain ⟨o, ho, e, he, hbd, heq⟩ := Region.waitsFor_spec hj
      have := hdep o ho e he hbd
      rw [heq] at this
      have h2 := this.2
      rwa [hput j _ this.1] at h2
  · rintro a' w' ⟨vs, rfl, hB⟩ hF
    exact done vs w' hB fun i hi => by
      have h2 := (hF i hi).2
      rwa [hput i _ hi] at h2
end Go
