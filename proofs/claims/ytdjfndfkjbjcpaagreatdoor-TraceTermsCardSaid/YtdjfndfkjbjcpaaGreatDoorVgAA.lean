/- States in letters: a call that is handed a row of the call's own, which is written no more. -/
import Derived.Test.YtdjfndfkjbjcpaaGreatDoorVgS
namespace Go.VG
open Go Go.RowKit
theorem Sp.callF {C : Ctx} {st : St} {f : FuncId} {b nt : Nat} {k : Blk} {args args' : List AV} {r : AV} {d : Option Nat} {K : St → Prop} (h : Sp C f args' r) (b' : Nat) (hbb : b' = b)
    (hb : og st.own b' = some k) (hp : pureBlk k = true) (hd : dstOk nt d = true) (ha : ArgsLe (args.map (frzAV b k)) args') (hcl : args'.all (avB []) = true)
    (hk : K { tm := match d with
      | some d => (d, r) :: (frz b k st).tm
      | none => (frz b k st).tm, own := (frz b k st).own, nx := st.nx }) : CallT C nt st f args d K := by
  subst hbb
  refine ⟨h.ok, fun F ρ a w vs hG hN hs hargs => ?_⟩
  have hs1 := hs.frz hb hp
  have hog : ∀ c, og (VG.frz b' k st).own c = if c = b' then none else (og st.own c).map (frzBlk b' k) := fun c => by
    show og ((oerase st.own b').map fun p => (p.1, frzBlk b' k p.2)) c = _
    rw [og_map, og_oerase]
    split <;> rfl
  have hdom : ∀ c, (og (VG.frz b' k st).own c).isSome = true → c ≠ b' ∧ (og st.own c).isSome = true := fun c hc => by
    rw [hog] at hc
    split at hc
    · cases hc
    · next h => exact ⟨h, by simpa using hc⟩
  have hx : ∀ {w'}, Ext (Mt F ρ (VG.frz b' k st).own) w w' → Ext (Mt F ρ st.own) w w' := fun hx => hx.mono fun i _ hm => by
    rcases hm with ho | ⟨c, hc, hk⟩
    · exact .inl ho
    · exact .inr ⟨c, (hdom c hc).2, hk⟩
  have hkeep : ∀ {w'}, Ext (Mt F ρ (VG.frz b' k st).own) w w' → ∀ g, vblk (ρ b') = some g → w'.heap[g]? = w.heap[g]? := fun hx g hg => by
    refine hx.keep g ((hs.own b' k hb).lt hg) ?_
    rintro (ho | ⟨c, hc, hk⟩)
    · exact hs.dis b' g (by rw [hb]; rfl) hg ho
    · obtain ⟨h1, h2⟩ := hdom c hc
      exact h1 (hs.inj c b' g h2 (by rw [hb]; rfl) hk hg)
  have hlt : ∀ i, Mt F ρ (VG.frz b' k st).own i → i < w.heap.size := fun i hm => by
    rcases hm with ho | ⟨c, hc, hv⟩
    · exact (hs.oo i ho).1
    · obtain ⟨kc, hkc⟩ := Option.isSome_iff_exists.1 hc
      exact (hs1.own c kc hkc).lt hv
  have frzArgs : ∀ {l : List AV} {us : List Value}, (Rob F ρ st.own w fun ρ' w' => ArgsR (AV.at ρ' w') l us) → ∀ {ρ' : Nat → Value} {w' : World}, (∀ c, c ≠ b' → (og st.own c).isSome = true → ρ' c = ρ c) → Ext (Mt F ρ st.own) w w' → (∀ g, vblk (ρ b') = some g → w'.heap[g]? = w.heap[g]?) → ArgsR (AV.at ρ' w') (l.map (frzAV b' k)) us := fun {l} => by
    induction l with
    | nil => intro us h ρ' w' _ _ _; cases us with
      | nil => trivial
      | cons => exact h.now.elim
    | cons t ts ih => intro us h ρ' w' h1 h2 h3; cases us with
      | nil => exact h.now.elim
      | cons u us => exact ⟨frz_av hs hb hp h1 h2 h3 fun r w2 q1 q2 => (h r w2 q1 q2).1, ih (fun r w2 q1 q2 => (h r w2 q1 q2).2) h1 h2 h3⟩
  have hcall := h.w (Mt F ρ (VG.frz b' k st).own) w vs (fun i hm => ⟨hlt i hm, fun _ _ _ _ => trivial⟩) (fun w' e => hG ▸ hs.gl ρ w' (Agr.refl _ _) (hx e)) (fun ρ' w' e => argsB_at hcl (ha.args (frzArgs hargs (ρ' := ρ) (fun _ _ _ => rfl) (hx e) (hkeep e))))
  refine hcall.mono fun en w' ⟨v, he, hbw, hr⟩ => ⟨v, _, he, hk, ?_⟩
  have hs2 := hs1.ext hbw
  cases d with
  | none => exact ⟨ρ, hs2⟩
  | some d => exact ⟨ρ, hs2.put (by rw [hN]; exact blt_lt hd) (fun ρ' w'' _ e => hr ρ' w'' e)⟩
end Go.VG
