/- Own texts joined: VgZ, VgR, VgP, VgQ. -/
import Derived.Test.YtdjfndfkjbjcpaaGreatDoorPkVgI
import Derived.Deep.LoopGhost
/- States in letters: regions with two stores whose places are free. -/
namespace Go.VG
open Go Go.RowKit
section
variable {C : Ctx} {N : Fnx} {st : St} {F : Fix} {ρ : Nat → Value} {a : Act} {w : World}
theorem made_junk {r : Res} {v : Value} {w w' : World} (h : Made F ρ st r v w w') : Made F ρ st (jkR r) v w w' := by
  unfold jkR
  split
  · next av b ls =>
    obtain ⟨hb, h0, u, h1, h2, h3⟩ := h
    have hA : ∀ {ρ'}, Agr ((b, Blk.st (List.replicate ls.length .any)) :: st.own) (updρ ρ b u) ρ' → Agr ((b, Blk.st ls) :: st.own) (updρ ρ b u) ρ' := fun ha c hc => ha c (by
      rcases some_new hc with rfl | ⟨n1, s1⟩
      · rw [og_cons, if_pos rfl]; rfl
      · rw [og_cons, if_neg (fun x => n1 x.symm)]; exact s1)
    have hM : ∀ {w''}, Ext (Mt F (updρ ρ b u) ((b, Blk.st (List.replicate ls.length .any)) :: st.own)) w' w'' → Ext (Mt F (updρ ρ b u) ((b, Blk.st ls) :: st.own)) w' w'' := fun hx => hx.mono fun i _ hi => by
      rcases hi with ho | ⟨c, c1, c2⟩
      · exact .inl ho
      · refine .inr ⟨c, ?_, c2⟩
        rcases some_new c1 with rfl | ⟨n1, s1⟩
        · rw [og_cons, if_pos rfl]; rfl
        · rw [og_cons, if_neg (fun x => n1 x.symm)]; exact s1
    exact ⟨hb, h0, u, h1, fun ρ' w'' k1 k2 => h2 ρ' w'' (hA k1) (hM k2), (BlkLe.st (lsLe_any ls)).h w' _ _ u (fun l l' x hl ho hr ρ' w'' k1 k2 => hl.h ρ' w'' x ho (hr ρ' w'' (hA k1) (hM k2))) h3⟩
  · exact h
theorem pure_junk {ops : Array Oper} {o : Oper} {r : Res} (p0 i : Nat) (h : PureOp C ops st o r) : PureOp C ops st o (jkI p0 i r) := by
  unfold jkI
  cases Nat.beq i p0 with
  | false => exact h
  | true => exact fun F ρ a w Q hG hs => opWp_mono (fun a' w' ⟨v, e, hm⟩ => ⟨v, e, made_junk hm⟩) (h F ρ a w Q hG hs)
theorem SatE.junkC (h : SatE F ρ st a w) {st' : St} {b : Nat} {ls : List Leaf} (ht : ∀ t, gt st'.tm t = gt st.tm t) (hb : og st.own b = some (.st ls)) (hb' : og st'.own b = some (.st (List.replicate ls.length .any))) (ho : ∀ c, c ≠ b → og st'.own c = og st.own c) : SatE F ρ st' a w := by
  have hs : ∀ c, (og st'.own c).isSome = (og st.own c).isSome := fun c => by
    by_cases e : c = b
    · rw [e, hb, hb']; rfl
    · rw [ho c e]
  have hA : ∀ {ρ'}, Agr st'.own ρ ρ' → Agr st.own ρ ρ' := fun h c hc => h c (by rw [hs]; exact hc)
  have hM : ∀ {w'}, Ext (Mt F ρ st'.own) w w' → Ext (Mt F ρ st.own) w w' := fun hx => hx.mono fun k _ hm => by
    rcases hm with h | ⟨c, h1, h2⟩
    · exact .inl h
    · exact .inr ⟨c, by rw [← hs]; exact h1, h2⟩
  refine ⟨h.dfr, h.nt, fun t ρ' w' k1 k2 => by rw [ht]; exact h.tm t ρ' w' (hA k1) (hM k2), fun c k hk => ?_, fun c c' k h1 h2 => h.inj c c' k (by rw [← hs]; exact h1) (by rw [← hs]; exact h2), fun c k h1 => h.base c k (by rw [← hs]; exact h1), fun c k h1 => h.dis c k (by rw [← hs]; exact h1), h.below, fun ρ' w' k1 k2 => h.gl ρ' w' (hA k1) (hM k2), h.oo⟩
  by_cases e : c = b
  · subst e
    rw [hb'] at hk
    cases hk
    exact (BlkLe.st (lsLe_any ls)).h w _ _ _ (fun l l' x hl ho hr ρ' w' k1 k2 => hl.h ρ' w' x ho (hr ρ' w' (hA k1) (hM k2))) (h.own c _ hb)
  · rw [ho c e] at hk
    exact (h.own c k hk).mono (fun _ _ => rfl) fun l u hr ρ' w' k1 k2 => hr ρ' w' (hA k1) (hM k2)
structure JkOk (C : Ctx) (l : List Oper) (ds : List (Option Nat)) (ms : List Nat) (rs : List Res) (st : St) (p b : Nat) : Prop where
  w : ∃ (x1 y1 : Nat) (t1 : TypeId) (d1 : TyD) (op1 : Oper) (lv1 : List Leaf) (k1 b1 : Nat), p < l.length ∧ lookB l ms p x1 = true ∧ lookB l ms p y1 = true ∧ l[p]? = some op1 ∧ op1.op = .store t1 (.tmp x1) (.tmp y1) ∧ op1.guard = none ∧ op1.dst = none ∧ tg C.tys t1 = some d1 ∧
    leaves (gt (tmB st.tm ds rs (fun _ => true) 0) y1) = some lv1 ∧ gt (tmB st.tm ds rs (fun _ => true) 0) x1 = .v (.c (.loc b1 0)) ∧ og (ownH ds.length rs (fun _ => true) 0 st.own) b1 = some (.st (List.replicate k1 .any)) ∧ (lv1.all leafNou && Nat.beq lv1.length d1.size) = true ∧ lv1.length = k1 ∧ b1 ≠ b ∧ (Nat.ble st.nx b1 && (ms.getD p 0).testBit (b1 - st.nx)) = true
def HeadOkZ (C : Ctx) (ops : List Oper) (ds : List (Option Nat)) (ms : List Nat) (st : St) (q0 p b k : Nat) (rs : List Res) (q : Nat) : Prop :=
  if q = q0 ∨ q = p then rs[q]? = some ⟨.any, none⟩ else ∃ o r stq, ops[q]? = some o ∧ o.dst.isSome = true ∧ rs[q]? = some r ∧ resOk st q r = true ∧ closedB stq = true ∧ stq.own = oset st.own b (.st (List.replicate k .any)) ∧ (∀ t, SeeOk st stq ds ms q rs t) ∧ PureOp C ops.toArray stq o r
theorem vcFastZ_sound (hT : TysOk C.P C.tys) {ops : List Oper} {ds : List (Option Nat)} {ms : List Nat} {n q0 p p0 b k : Nat} (hnl : ops.length = n) (hds : dsOk2 ds = true) (hdse : ds = ops.map (·.dst)) (hq0 : ∀ o i, (i = q0 ∨ i = p) → ops[i]? = some o → o.dst = none) (hlow : ∀ i j, i < n → (ms.getD i 0).testBit j = true → j < i)
    (hsee : ∀ i o t, i < n → ¬ (i = q0 ∨ i = p) → ops[i]? = some o → t ∈ looks ops o → ∀ j : Nat, ds[j]? = some (some t) → (ms.getD i 0).testBit j = true ∨ (ms.getD j 0).testBit i = true ∨ j = i) {K : List (Nat × AV) → List (Nat × Blk) → Prop} :
    ∀ {l : List Oper} {i : Nat} {rs : List Res} {pre : List (Nat × AV)} {own : List (Nat × Blk)}, i + l.length = n → (∀ j o, l[j]? = some o → ops[i + j]? = some o) → rs.length = i → vcFastZ C ops st q0 p p0 b k i l pre own K → FastS st ds rs pre own → (∀ q r, rs[q]? = some r → resOk st q r = true) →
    (∀ q, q < i → HeadOkZ C ops ds ms st q0 p b k rs q) → ∃ (rs' : List Res) (pre' : List (Nat × AV)) (own' : List (Nat × Blk)), K pre' own' ∧ rs'.length = n ∧ FastS st ds rs' pre' own' ∧ (∀ q, q < n → HeadOkZ C ops ds ms st q0 p b k rs' q)
  | [], i, rs, pre, own, hn, _, hl, h, hf, _, hok => ⟨rs, pre, own, h, by simp at hn; omega, hf, fun q hq => hok q (by simp at hn; omega)⟩
  | o :: l, i, rs, pre, own, hn, hops, hl, h, hf, hRr, hok => by
    have hoi : ops[i]? = some o := by have := hops 0 o rfl; simpa using this
    have hdi : ds[i]? = some o.dst := by rw [hdse, List.getElem?_map, hoi]; rfl
    have hold : ∀ (r : Res) q, q < i → HeadOkZ C ops ds ms st q0 p b k (rs ++ [r]) q := fun r q hq => by
      have := hok q hq
      unfold HeadOkZ at this ⊢
      split at this
      · next e => rw [if_pos e, List.getElem?_append_left (by omega)]; exact this
      · next e =>
        rw [if_neg e]
        obtain ⟨o', r', stq, h1, h1', h2, h3, h4, h5, h6, h7⟩ := this
        refine ⟨o', r', stq, h1, h1', by rw [List.getElem?_append_left (by omega)]; exact h2, h3, h4, h5, fun t => ⟨?_⟩, h7⟩
        rcases (h6 t).w with h | ⟨j, rj, g1, g2, g3, g4⟩ | h
        · exact .inl h
        · exact .inr (.inl ⟨j, rj, g1, g2, by rw [List.getElem?_append_left (List.getElem?_eq_some_iff.1 g3).1]; exact g3, g4⟩)
        · exact .inr (.inr h)
    have hnx : ∀ j o', l[j]? = some o' → ops[i + 1 + j]? = some o' := fun j o' ho' => by rw [show i + 1 + j = i + (j + 1) by omega]; exact hops (j + 1) o' (by simpa using ho')
    have hlast : ∀ (r : Res), (rs ++ [r])[i]? = some r := fun r => by rw [List.getElem?_append_right (by omega), hl]; simp
    have hRn : ∀ (r : Res), resOk st i r = true → ∀ q r', (rs ++ [r])[q]? = some r' → resOk st q r' = true := fun r hr q r' hq => by
      by_cases hqi : q < i
      · rw [List.getElem?_append_left (by omega)] at hq
        exact hRr q r' hq
      · by_cases hqe : q = i
        · subst hqe
          rw [hlast] at hq
          cases hq
          exact hr
        · rw [List.getElem?_eq_none (by simp; omega)] at hq
          cases hq
    rw [vcFastZ] at h
    split at h
    · next hb =>
      have hiq : i = q0 ∨ i = p := by
        rw [Bool.or_eq_true] at hb
        exact hb.imp Nat.eq_of_beq_eq_true Nat.eq_of_beq_eq_true
      have hdn := hq0 o i hiq hoi
      rw [hdn] at hdi
      refine vcFastZ_sound hT hnl hds hdse hq0 hlow hsee (rs := rs ++ [⟨.any, none⟩]) (by simp at hn ⊢; omega) hnx (by simp; omega) h ⟨fun j d r hj hr => ?_, fun t ht => hf.p2 t fun j hj => ht j (by simp; omega), fun b' k' => ?_⟩ (hRn _ rfl) fun q hq => ?_
      · by_cases hji : j = i
        · rw [hji, hdi] at hj; cases hj
        · refine hf.p1 j d r hj ?_
          rcases Nat.lt_or_ge j i with h | h
          · rw [List.getElem?_append_left (by omega)] at hr; exact hr
          · rw [List.getElem?_eq_none (by simp; omega)] at hr; cases hr
      · rw [hf.p3]
        constructor
        · rintro ⟨q, av, hq⟩
          exact ⟨q, av, by rw [List.getElem?_append_left (List.getElem?_eq_some_iff.1 hq).1]; exact hq⟩
        · rintro ⟨q, av, hq⟩
          rcases Nat.lt_or_ge q i with h | h
          · exact ⟨q, av, by rw [List.getElem?_append_left (by omega)] at hq; exact hq⟩
          · by_cases hqi : q = i
            · rw [hqi, hlast] at hq; cases hq
            · rw [List.getElem?_eq_none (by simp; omega)] at hq; cases hq
      · by_cases hqi : q = i
        · unfold HeadOkZ
          rw [if_pos (by rw [hqi]; exact hiq), hqi]
          exact hlast _
        · exact hold _ q (by omega)
    · next hb =>
      have hne : ¬ (i = q0 ∨ i = p) := fun x => by
        rcases x with x | x
        · rw [x, Nat.beq_refl] at hb; cases hb
        · rw [x, Nat.beq_refl, Bool.or_true] at hb; cases hb
      obtain ⟨hcl, h⟩ := guardB_out h
      obtain ⟨r, hk, hp⟩ := vcH1_sound hT h
      replace hp := pure_junk p0 i hp
      generalize jkI p0 i r = r at *
      obtain ⟨hres, hk⟩ := guardB_out hk
      split at hk
      · next d hd =>
        rw [force_eq] at hk
        rw [hd] at hdi
        refine vcFastZ_sound hT hnl hds hdse hq0 hlow hsee (rs := rs ++ [r]) (by simp at hn ⊢; omega) hnx (by simp; omega) hk ⟨fun j d' r' hj hr => ?_, fun t ht => ?_, fun b' k' => ?_⟩ (hRn _ hres) fun q hq => ?_
        · show gt ((d, r.av) :: (pre ++ st.tm)) d' = _
          rw [gt_cons]
          by_cases hji : j = i
          · subst hji
            rw [hdi] at hj
            cases hj
            rw [if_pos rfl]
            rw [hlast] at hr
            cases hr
            rfl
          · rcases Nat.lt_or_ge j i with h | h
            · rw [List.getElem?_append_left (by omega)] at hr
              rw [if_neg (fun (e : d = d') => hji (dsOk2_inj hds hj (by rw [← e]; exact hdi)))]
              exact hf.p1 j d' r' hj hr
            · rw [List.getElem?_eq_none (by simp; omega)] at hr; cases hr
        · show gt ((d, r.av) :: (pre ++ st.tm)) t = _
          rw [gt_cons, if_neg (fun (e : d = t) => ht i (by simp; omega) (by rw [← e]; exact hdi))]
          exact hf.p2 t fun j hj => ht j (by simp; omega)
        · have hrs : (∃ (q : Nat) (av : AV), (rs ++ [r])[q]? = some ⟨av, some (b', k')⟩) ↔ (∃ (q : Nat) (av : AV), rs[q]? = some ⟨av, some (b', k')⟩) ∨ r.own = some (b', k') := by
            constructor
            · rintro ⟨q, av, hq⟩
              rcases Nat.lt_or_ge q i with h | h
              · exact .inl ⟨q, av, by rw [List.getElem?_append_left (by omega)] at hq; exact hq⟩
              · by_cases hqi : q = i
                · rw [hqi, hlast] at hq
                  cases hq
                  exact .inr rfl
                · rw [List.getElem?_eq_none (by simp; omega)] at hq; cases hq
            · rintro (⟨q, av, hq⟩ | h)
              · exact ⟨q, av, by rw [List.getElem?_append_left (List.getElem?_eq_some_iff.1 hq).1]; exact hq⟩
              · refine ⟨i, r.av, ?_⟩
                rw [hlast, ← h]
          rw [hrs, ← hf.p3]
          cases ho : r.own with
          | none =>
            show og own b' = some k' ↔ _
            simp
          | some p =>
            obtain ⟨b1, k1⟩ := p
            show og ((b1, k1) :: own) b' = some k' ↔ _
            rw [og_cons]
            have hid : ∀ k2, og own b1 ≠ some k2 := fun k2 hx => by
              obtain ⟨q, av, hq⟩ := (hf.p3 b1 k2).1 hx
              have h1 := (resOk_at (hRr q _ hq)).1
              have h2 : resOk st i ⟨r.av, some (b1, k1)⟩ = true := by rw [← ho]; exact hres
              have h2 := (resOk_at h2).1
              have := (List.getElem?_eq_some_iff.1 hq).1
              simp only at h1 h2
              omega
            by_cases hb1 : b1 = b'
            · subst hb1
              rw [if_pos rfl]
              constructor
              · intro h; cases h; exact .inr rfl
              · rintro (h | h)
                · exact absurd h (hid _)
                · cases h; rfl
            · rw [if_neg hb1]
              constructor
              · exact .inl
              · rintro (h | h)
                · exact h
                · cases h; exact absurd rfl hb1
        · by_cases hqi : q = i
          · subst hqi
            unfold HeadOkZ
            rw [if_neg hne]
            refine ⟨o, r, _, hoi, by rw [hd]; rfl, hlast r, hres, hcl, rfl, fun t => ⟨?_⟩, hp⟩
            show gt ((looks ops o).map fun t => (t, gt (pre ++ st.tm) t)) t = .any ∨ _
            by_cases htl : t ∈ looks ops o
            · have e : gt ((looks ops o).map fun t => (t, gt (pre ++ st.tm) t)) t = gt (pre ++ st.tm) t := by rw [gt_looks, if_pos htl]
              by_cases hin : ∃ j : Nat, ds[j]? = some (some t)
              · obtain ⟨j, hj⟩ := hin
                have hjn : j < n := by
                  have := (List.getElem?_eq_some_iff.1 hj).1
                  rw [hdse, List.length_map] at this
                  rw [← hnl]; exact this
                rcases hsee q o t (by simp at hn; omega) hne hoi htl j hj with hm | hm
                · have hjq := hlow q j (by simp at hn; omega) hm
                  obtain ⟨rj, hrj⟩ : ∃ rj, rs[j]? = some rj := ⟨_, List.getElem?_eq_getElem (by omega)⟩
                  refine .inr (.inl ⟨j, rj, hm, hj, by rw [List.getElem?_append_left (by omega)]; exact hrj, ?_⟩)
                  exact e.trans (hf.p1 j t rj hj hrj)
                · refine .inr (.inr ⟨fun j' hj' => by rw [dsOk2_inj hds hj' hj]; exact hm, ?_⟩)
                  refine e.trans (hf.p2 t fun j' hl' hj' => ?_)
                  have e2 := dsOk2_inj hds hj' hj
                  rcases hm with hm | hm
                  · have := hlow j q hjn hm
                    omega
                  · omega
              · refine .inr (.inr ⟨fun j hj => absurd ⟨j, hj⟩ hin, ?_⟩)
                exact e.trans (hf.p2 t fun j _ hj => hin ⟨j, hj⟩)
            · left
              rw [gt_looks, if_neg htl]
          · exact hold _ q (by omega)
      · exact hk.elim
theorem store_anyZ2 {l : List Oper} (hG : F.G = C.G) (hN : F.nt = N.nt) (hT : TysOk C.P C.tys) {Q : Exit → Act → World → Prop}
    (hs : Sat F st a w) {q p x y b k : Nat} {ms : List Nat} {ds : List (Option Nat)} {rs : List Res} {t : TypeId} {d : TyD} {oq : Oper} {lv ls0 : List Leaf}
    (hbk : Region.backward .any l.toArray = true) (hM : masksOk l l.length ms = true) (hds : dsOk2 ds = true) (hdse : l.map (·.dst) = ds) (hdl : ds.length = l.length) (hdst : (l.all fun o => dstOk N.nt o.dst) = true) (hrl : rs.length = l.length)
    (hok : ∀ q', q' < l.length → HeadOkZ C l ds ms st q p b k rs q') (hR : ∀ q' r, rs[q']? = some r → resOk st q' r = true) (hjk : JkOk C l ds ms rs st p b) (hpq : p ≠ q)
    (hstore : (q = l.length ∧ og st.own b = none) ∨ (q < l.length ∧ lookB l ms q x = true ∧ lookB l ms q y = true ∧ ((og st.own b).isSome || (Nat.ble st.nx b && (ms.getD q 0).testBit (b - st.nx))) = true ∧ l[q]? = some oq ∧ oq.op = .store t (.tmp x) (.tmp y) ∧ oq.guard = none ∧ oq.dst = none ∧ tg C.tys t = some d ∧ d.size = k ∧
      leaves (gt (tmB st.tm ds rs (fun _ => true) 0) y) = some lv ∧ gt (tmB st.tm ds rs (fun _ => true) 0) x = .v (.c (.loc b 0)) ∧ og (ownH ds.length rs (fun _ => true) 0 st.own) b = some (.st ls0) ∧ lv.all leafNou = true ∧ Nat.beq lv.length k = true ∧ lv.length = k ∧ ls0.length = k))
    (hfin : ∀ st' a' w', st'.own = (if q = l.length then ownH ds.length rs (fun _ => true) 0 st.own else oset (ownH ds.length rs (fun _ => true) 0 st.own) b (.st lv)) → (∀ t, gt st'.tm t = gt (tmB st.tm ds rs (fun _ => true) 0) t) → Sat F st' a' w' → Q .normal a' w') : wpAny C.P .any l.toArray Q l.toArray.size (Array.replicate l.toArray.size false) a w.drew := by
  have hdsq : ∀ (q' : Nat) o', l[q']? = some o' → ds[q']? = some o'.dst := fun q' o' ho' => by rw [← hdse, List.getElem?_map, ho']; rfl
  -- what is waited for is done
  have hmask : ∀ (listed : Array Bool) (_ : HeadInv .any l.toArray l.length listed) (q : Nat), q < l.length → (∀ o', l[q]? = some o' → ∀ k ∈ dep1 o', listed.getD k false = true) → ∀ j, (ms.getD q 0).testBit j = true → listed.getD j false = true := by
    intro listed hinv q
    induction q using Nat.strongRecOn with
    | _ q ih =>
      intro hq hdone j hj
      obtain ⟨oq, hoq, hlow, hdep, hbits⟩ := masksOk_at hM hq
      obtain ⟨k, hk, hkj⟩ := hbits j hj
      have hdk := hdone oq hoq k hk
      rcases hkj with rfl | hkj
      · exact hdk
      · have hkq := hdep k hk
        refine ih k hkq (by omega) (fun o' ho' k' hk' => ?_) j hkj
        unfold dep1 at hk'
        rw [List.mem_map] at hk'
        obtain ⟨e, he, rfl⟩ := hk'
        rw [List.mem_filter] at he
        exact hinv.closed k o' (by simpa using ho') hdk e (by simpa using he.1) he.2
  have hmr : ∀ (listed : Array Bool) (i : Nat), HeadInv .any l.toArray l.length listed → i ∈ Region.ready .any l.toArray listed → ∀ j, (ms.getD i 0).testBit j = true → listed.getD j false = true := fun listed i hinv hr => by
    obtain ⟨hi1, _, hi3⟩ := ready_mem hr
    refine hmask listed hinv i (by simpa using hi1) fun o' ho' k hk => ?_
    unfold dep1 at hk
    rw [List.mem_map] at hk
    obtain ⟨e, he, rfl⟩ := hk
    rw [List.mem_filter] at he
    exact hi3 o' (by simpa using ho') e (by simpa using he.1) he.2
  have hmq : ∀ (listed : Array Bool), HeadInv .any l.toArray l.length listed → ∀ q, q < l.length → listed.getD q false = true → ∀ j, (ms.getD q 0).testBit j = true → listed.getD j false = true := fun listed hinv q hql hlq => by
    refine hmask listed hinv q hql fun o' ho' k hk => ?_
    unfold dep1 at hk
    rw [List.mem_map] at hk
    obtain ⟨e, he, rfl⟩ := hk
    rw [List.mem_filter] at he
    exact hinv.closed q o' (by simpa using ho') hlq e (by simpa using he.1) he.2
  have hown : ∀ (sel : Nat → Bool) (kb : Blk), q < l.length → og (ownH ds.length rs sel 0 st.own) b = some kb → kb = .st ls0 ∧ lv.length = k ∧ ls0.length = k := fun sel kb hql hkb => by
    rcases hstore with ⟨h1, _⟩ | ⟨_, _, _, _, _, _, _, _, _, _, _, _, hbv, _, _, g4, g5⟩
    · omega
    · have := ownH_mono (sel' := fun _ => true) hR (fun _ _ => rfl) hkb
      rw [hbv] at this
      cases this
      exact ⟨rfl, g4, g5⟩
  obtain ⟨ρ, hs⟩ := hs
  have h0 : Sat F (stS st ds rs (selA (Array.replicate l.toArray.size false)) q b lv (st.nx + l.length)) a w.drew := by
    have hsel : ∀ j, selA (Array.replicate l.toArray.size false) j = false := fun j => getD_replicate_false _ _
    refine ⟨ρ, hs.drew.sub (fun t' => ?_) fun b' => ?_⟩
    · show gt (tmB st.tm ds rs _ 0) t' = _ ∨ gt (tmB st.tm ds rs _ 0) t' = _
      by_cases hin : ∃ j : Nat, ds[j]? = some (some t')
      · obtain ⟨j, hj⟩ := hin
        rw [gt_tmB_in hds hj]
        unfold pickB
        cases rs[0 + j]? with
        | none => exact .inr rfl
        | some r => left; simp only [hsel]; rfl
      · left
        exact gt_tmB_out fun j hj => hin ⟨j, hj⟩
    · show og (bif selA _ q then _ else _) b' = _
      rw [hsel q]
      exact og_ownH_out fun q av blk _ _ h1 _ => by rw [hsel] at h1; cases h1
  have hinv0 : HeadInv .any l.toArray l.toArray.size (Array.replicate l.toArray.size false) := ⟨by simp, fun j oj _ hl => (by rw [getD_replicate_false] at hl; cases hl), fun t _ ht => getD_in (by simpa using ht) (getD_replicate_false _ _)⟩
  have hsz : l.toArray.size = l.length := by simp
  refine wpAny_inv_all (P := C.P) (Q := Q) (md := .any) (ops := l.toArray) hbk (fun listed a w => listed.size = l.toArray.size ∧ Sat F (stS st ds rs (selA listed) q b lv (st.nx + l.length)) a w) (fun listed i a w hi hr hinv ⟨hls, hs⟩ => ?_) (fun listed a w hall ⟨hls, hs⟩ => ?_) l.toArray.size (Array.replicate l.toArray.size false) a w.drew hinv0 ⟨by simp, h0⟩ ?_
  · rw [hsz] at hinv
    have hi : i < l.length := by rw [← hsz]; exact hi
    obtain ⟨ρ, hs⟩ := hs
    obtain ⟨hi1, hi2, _⟩ := ready_mem hr
    have hisz : i < listed.size := by rw [hinv.size]; exact hi1
    have hi0 : selA listed i = false := by
      unfold selA
      unfold Array.getD at hi2 ⊢
      rw [dif_pos hisz] at hi2 ⊢
      exact hi2
    have hmi := hmr listed i hinv hr
    have hset : ∀ j, j ≠ i → selA (listed.setIfInBounds i true) j = selA listed j := fun j hj => by rw [sel_set hisz, if_neg hj]
    have hseti : selA (listed.setIfInBounds i true) i = true := by rw [sel_set hisz, if_pos rfl]
    by_cases hip : i = p
    · -- the store that nothing looks at
      subst hip
      obtain ⟨x1, y1, t1, d1, op1, lv1, k1, b1, hpl, hx1, hy1, hop1, hpo, hpg, hpd, ht1, hlv1, hxv1, hbv1, hn1, hk1, hbb, hbm⟩ := hjk.w
      have hpn : rs[i]? = some ⟨.any, none⟩ := by have := hok i hi; unfold HeadOkZ at this; rwa [if_pos (.inr rfl)] at this
      have hgt : ∀ s, lookB l ms i s = true → gt (tmB st.tm ds rs (selA listed) 0) s = gt (tmB st.tm ds rs (fun _ => true) 0) s := fun s hl => by
        by_cases hin : ∃ j : Nat, ds[j]? = some (some s)
        · obtain ⟨j, hj⟩ := hin
          rw [gt_tmB_in hds hj, gt_tmB_in hds hj, Nat.zero_add]
          have := hmi j (lookB_at hl (by rw [hdse]; exact hj))
          unfold pickB
          simp only [show selA listed j = true from this]
        · rw [gt_tmB_out fun j hj => hin ⟨j, hj⟩, gt_tmB_out fun j hj => hin ⟨j, hj⟩]
      have hob : og (ownH ds.length rs (selA listed) 0 st.own) b1 = some (.st (List.replicate k1 .any)) := by
        by_cases hex : ∃ (q : Nat) (av : AV) (blk : Blk), q < ds.length ∧ rs[q]? = some ⟨av, some (b1, blk)⟩
        · obtain ⟨q', av, blk, q1, q3⟩ := hex
          have e := resOk_at (hR q' _ q3)
          simp only at e
          rw [Bool.and_eq_true, e.1, Nat.add_sub_cancel_left] at hbm
          have h1 := og_ownH_in (sel := selA listed) hR (n := ds.length) (base := st.own) (Nat.zero_le q') (by omega) q3 (hmi q' hbm.2)
          have h2 := og_ownH_in (sel := fun _ => true) hR (n := ds.length) (base := st.own) (Nat.zero_le q') (by omega) q3 rfl
          rw [h1, ← h2]
          exact hbv1
        · have h1 : og (ownH ds.length rs (selA listed) 0 st.own) b1 = og st.own b1 := og_ownH_out fun q av blk _ q1 q2 q3 => hex ⟨q, av, blk, by omega, q3⟩
          have h2 : og (ownH ds.length rs (fun _ => true) 0 st.own) b1 = og st.own b1 := og_ownH_out fun q av blk _ q1 q2 q3 => hex ⟨q, av, blk, by omega, q3⟩
          rw [h1, ← h2]
          exact hbv1
      have hobS : og (stS st ds rs (selA listed) q b lv (st.nx + l.length)).own b1 = some (.st (List.replicate k1 .any)) := by
        show og (bif selA listed q then oset (ownH ds.length rs (selA listed) 0 st.own) b (.st lv) else ownH ds.length rs (selA listed) 0 st.own) b1 = _
        cases selA listed q with
        | false => exact hob
        | true =>
          show og (oset _ b (.st lv)) b1 = _
          rw [og_oset, if_neg hbb]
          exact hob
      have hx' : ev (stS st ds rs (selA listed) q b lv (st.nx + l.length)) (.tmp x1) = .v (.c (.loc b1 0)) := (hgt x1 hx1).trans hxv1
      have hy' : leaves (ev (stS st ds rs (selA listed) q b lv (st.nx + l.length)) (.tmp y1)) = some lv1 := by
        rw [show ev (stS st ds rs (selA listed) q b lv (st.nx + l.length)) (.tmp y1) = _ from hgt y1 hy1]
        exact hlv1
      have := step_store_st (C := C) (N := N) (ops := l.toArray) (st := stS st ds rs (selA listed) q b lv (st.nx + l.length)) (K := fun st' => st' = { stS st ds rs (selA listed) q b lv (st.nx + l.length) with own := oset (stS st ds rs (selA listed) q b lv (st.nx + l.length)).own b1 (.st (stLeaves (List.replicate k1 .any) 0 lv1)) }) hT hpg hpo hpd ht1 hy' hn1 hx' hobS (by
        show guardB (Nat.ble (0 + lv1.length) (List.replicate k1 Leaf.any).length) _
        rw [show Nat.ble (0 + lv1.length) (List.replicate k1 Leaf.any).length = true from Nat.ble_eq_true_of_le (by rw [List.length_replicate]; omega)]
        rfl)
      refine wpOp_of hop1 (opWp_mono ?_ (this F a w Q hG hN ⟨ρ, hs⟩))
      rintro a' w' ⟨_, rfl, ρ', hs'⟩
      have e1 : stLeaves (List.replicate k1 .any) 0 lv1 = lv1 := by
        unfold stLeaves
        rw [List.take_zero, List.nil_append, Nat.zero_add, List.drop_eq_nil_of_le (by rw [List.length_replicate]; omega), List.append_nil]
      rw [e1] at hs'
      have e2 : ∀ c, og (ownH ds.length rs (selA (listed.setIfInBounds i true)) 0 st.own) c = og (ownH ds.length rs (selA listed) 0 st.own) c := fun c => by
        have := ownH_step (st := st) (rs := rs) (n := ds.length) (r := ⟨.any, none⟩) hR (by omega) hpn hseti hi0 hset c
        exact this
      have eS : ∀ c, og (stS st ds rs (selA (listed.setIfInBounds i true)) q b lv (st.nx + l.length)).own c = og (stS st ds rs (selA listed) q b lv (st.nx + l.length)).own c := fun c => by
        show og (bif selA (listed.setIfInBounds i true) q then oset (ownH ds.length rs (selA (listed.setIfInBounds i true)) 0 st.own) b (.st lv) else ownH ds.length rs (selA (listed.setIfInBounds i true)) 0 st.own) c = og (bif selA listed q then oset (ownH ds.length rs (selA listed) 0 st.own) b (.st lv) else ownH ds.length rs (selA listed) 0 st.own) c
        rw [hset q (fun x => hpq x.symm)]
        cases selA listed q with
        | false => exact e2 c
        | true =>
          show og (oset _ b (.st lv)) c = og (oset _ b (.st lv)) c
          rw [og_oset, og_oset, e2 b, e2 c]
      refine ⟨by rw [Array.size_setIfInBounds]; exact hls, ρ', hs'.junkC (b := b1) (ls := lv1) (fun t' => ?_) ?_ ?_ fun c hc => ?_⟩
      · show gt (tmB st.tm ds rs _ 0) t' = gt (tmB st.tm ds rs _ 0) t'
        by_cases hin : ∃ j : Nat, ds[j]? = some (some t')
        · obtain ⟨j, hj⟩ := hin
          have hji : j ≠ i := fun e => by
            have := hdsq i op1 hop1
            rw [← e, hj, hpd] at this
            cases this
          rw [gt_tmB_in hds hj, gt_tmB_in hds hj, Nat.zero_add]
          unfold pickB
          simp only [hset j hji]
        · rw [gt_tmB_out fun j hj => hin ⟨j, hj⟩, gt_tmB_out fun j hj => hin ⟨j, hj⟩]
      · show og (oset _ b1 (.st lv1)) b1 = _
        rw [og_oset, if_pos rfl, hobS]
        rfl
      · rw [eS, hobS, hk1]
      · show _ = og (oset _ b1 (.st lv1)) c
        rw [og_oset, if_neg hc, eS]
    by_cases hiq : i = q
    · -- the store
      subst hiq
      rcases hstore with ⟨h1, _⟩ | ⟨hql, hlx, hly, hbase, hoq, hop, hgq, hdq, ht, hkk, hlv, hxv, hbv, g2, g3, g4, g5⟩
      · omega
      have hqn : rs[i]? = some ⟨.any, none⟩ := by have := hok i hi; unfold HeadOkZ at this; rwa [if_pos (.inl rfl)] at this
      have hgt : ∀ s, lookB l ms i s = true → gt (tmB st.tm ds rs (selA listed) 0) s = gt (tmB st.tm ds rs (fun _ => true) 0) s := fun s hl => by
        by_cases hin : ∃ j : Nat, ds[j]? = some (some s)
        · obtain ⟨j, hj⟩ := hin
          rw [gt_tmB_in hds hj, gt_tmB_in hds hj, Nat.zero_add]
          have := hmi j (lookB_at hl (by rw [hdse]; exact hj))
          unfold pickB
          simp only [show selA listed j = true from this]
        · rw [gt_tmB_out fun j hj => hin ⟨j, hj⟩, gt_tmB_out fun j hj => hin ⟨j, hj⟩]
      have hob : og (ownH ds.length rs (selA listed) 0 st.own) b = some (.st ls0) := by
        by_cases hex : ∃ (q : Nat) (av : AV) (blk : Blk), q < ds.length ∧ rs[q]? = some ⟨av, some (b, blk)⟩
        · obtain ⟨q, av, blk, q1, q3⟩ := hex
          have e := resOk_at (hR q _ q3)
          simp only at e
          have hq : selA listed q = true := by
            rw [e.2, Bool.or_eq_true] at hbase
            rcases hbase with hbase | hbase
            · cases hbase
            · rw [Bool.and_eq_true, e.1, Nat.add_sub_cancel_left] at hbase
              exact hmi q hbase.2
          have h1 := og_ownH_in hR (n := ds.length) (base := st.own) (Nat.zero_le q) (by omega) q3 hq
          rw [h1]
          exact congrArg some (hown (selA listed) _ hql h1).1
        · have h1 : og (ownH ds.length rs (selA listed) 0 st.own) b = og st.own b := og_ownH_out fun q av blk _ q1 q2 q3 => hex ⟨q, av, blk, by omega, q3⟩
          have h2 : og (ownH ds.length rs (fun _ => true) 0 st.own) b = og st.own b := og_ownH_out fun q av blk _ q1 q2 q3 => hex ⟨q, av, blk, by omega, q3⟩
          rw [h1, ← h2]
          exact hbv
      have hSown : (stS st ds rs (selA listed) i b lv (st.nx + l.length)).own = ownH ds.length rs (selA listed) 0 st.own := by
        unfold stS
        rw [hi0]; rfl
      have hx' : ev (stS st ds rs (selA listed) i b lv (st.nx + l.length)) (.tmp x) = .v (.c (.loc b 0)) := (hgt x hlx).trans hxv
      have hy' : leaves (ev (stS st ds rs (selA listed) i b lv (st.nx + l.length)) (.tmp y)) = some lv := by
        rw [show ev (stS st ds rs (selA listed) i b lv (st.nx + l.length)) (.tmp y) = _ from hgt y hly]
        exact hlv
      have := step_store_st (C := C) (N := N) (ops := l.toArray) (st := stS st ds rs (selA listed) i b lv (st.nx + l.length)) (K := fun st' => st' = { stS st ds rs (selA listed) i b lv (st.nx + l.length) with own := oset (stS st ds rs (selA listed) i b lv (st.nx + l.length)).own b (.st (stLeaves ls0 0 lv)) }) hT hgq hop hdq ht hy' (by rw [g2, hkk, g3]; rfl) hx' (by rw [hSown]; exact hob) (by
        show guardB (Nat.ble (0 + lv.length) ls0.length) _
        rw [show Nat.ble (0 + lv.length) ls0.length = true from Nat.ble_eq_true_of_le (by omega)]
        rfl)
      refine wpOp_of hoq (opWp_mono ?_ (this F a w Q hG hN ⟨ρ, hs⟩))
      rintro a' w' ⟨_, rfl, ρ', hs'⟩
      refine ⟨by rw [Array.size_setIfInBounds]; exact hls, ρ', hs'.congr (fun t' => ?_) fun b' => ?_⟩
      · show gt (tmB st.tm ds rs _ 0) t' = gt (tmB st.tm ds rs _ 0) t'
        by_cases hin : ∃ j : Nat, ds[j]? = some (some t')
        · obtain ⟨j, hj⟩ := hin
          have hji : j ≠ i := fun e => by
            have := hdsq i oq hoq
            rw [← e, hj, hdq] at this
            cases this
          rw [gt_tmB_in hds hj, gt_tmB_in hds hj, Nat.zero_add]
          unfold pickB
          simp only [hset j hji]
        · rw [gt_tmB_out fun j hj => hin ⟨j, hj⟩, gt_tmB_out fun j hj => hin ⟨j, hj⟩]
      · show og (bif selA _ i then oset (ownH ds.length rs _ 0 st.own) b (.st lv) else _) b' = og (oset (stS st ds rs (selA listed) i b lv (st.nx + l.length)).own b (.st (stLeaves ls0 0 lv))) b'
        rw [hseti, hSown]
        show og (oset (ownH ds.length rs _ 0 st.own) b (.st lv)) b' = _
        have e1 : stLeaves ls0 0 lv = lv := by
          unfold stLeaves
          rw [List.take_zero, List.nil_append, Nat.zero_add, List.drop_eq_nil_of_le (by omega), List.append_nil]
        rw [e1, og_oset, og_oset]
        have e2 : ∀ c, og (ownH ds.length rs (selA (listed.setIfInBounds i true)) 0 st.own) c = og (ownH ds.length rs (selA listed) 0 st.own) c := fun c => by
          have := ownH_step (st := st) (rs := rs) (n := ds.length) (r := ⟨.any, none⟩) hR (by omega) hqn hseti hi0 hset c
          exact this
        simp only [e2]
    · have hok' := hok i hi
      unfold HeadOkZ at hok'
      rw [if_neg (fun h => h.elim hiq hip)] at hok'
      obtain ⟨o, r, stq, h1, h1', h2, h3, h4, hso, hsee, h5⟩ := hok'
      have hent : EntL (stS st ds rs (selA listed) q b lv (st.nx + l.length)) stq := by
        refine ⟨fun t' => ?_, fun c kc hk => ?_, h4⟩
        · show AvLe (gt (tmB st.tm ds rs (selA listed) 0) t') _
          rcases (hsee t').w with h | ⟨j, rj, e1, e2, e3, e4⟩ | ⟨e1, e2⟩
          · rw [h]; exact .any _
          · rw [e4, gt_tmB_in hds e2, Nat.zero_add]
            unfold pickB
            rw [e3]
            simp only [show selA listed j = true from hmi j e1]
            exact .refl _
          · rw [e2]
            by_cases hin : ∃ j : Nat, ds[j]? = some (some t')
            · obtain ⟨j, hj⟩ := hin
              have hjl : j < l.length := by have := (List.getElem?_eq_some_iff.1 hj).1; omega
              have hns : selA listed j = false := by
                cases hq : selA listed j with
                | false => rfl
                | true =>
                  exfalso
                  rcases e1 j hj with h | h
                  · have : selA listed i = true := hmq listed hinv j hjl hq i h
                    rw [hi0] at this
                    cases this
                  · rw [h, hi0] at hq
                    cases hq
              rw [gt_tmB_in hds hj, Nat.zero_add]
              unfold pickB
              rw [List.getElem?_eq_getElem (show j < rs.length by omega)]
              simp only [hns]
              exact .refl _
            · rw [gt_tmB_out fun j hj => hin ⟨j, hj⟩]
              exact .refl _
        · rw [hso, og_oset] at hk
          have hbs : ∀ c kc, og st.own c = some kc → og (ownH ds.length rs (selA listed) 0 st.own) c = some kc := fun c kc h => by
            rw [og_ownH_out fun q av blk _ _ _ q3 => ?_]
            · exact h
            · have := (resOk_at (hR q _ q3)).2
              simp only at this
              rw [this] at h
              cases h
          by_cases hcb : c = b
          · subst hcb
            rw [if_pos rfl] at hk
            cases hc0 : og st.own c with
            | none => rw [hc0] at hk; cases hk
            | some k0 =>
              rw [hc0] at hk
              cases hk
              have h6 := hbs c k0 hc0
              have hql : q < l.length := by
                rcases hstore with ⟨_, h⟩ | ⟨h, _⟩
                · rw [h] at hc0; cases hc0
                · exact h
              obtain ⟨rfl, g4, g5⟩ := hown _ _ hql h6
              cases hq : selA listed q with
              | false =>
                refine ⟨.st ls0, ?_, by rw [← g5]; exact BlkLe.st (lsLe_any ls0)⟩
                show og (bif selA listed q then _ else _) c = _
                rw [hq]
                exact h6
              | true =>
                refine ⟨.st lv, ?_, by rw [← g4]; exact BlkLe.st (lsLe_any lv)⟩
                show og (bif selA listed q then _ else _) c = _
                rw [hq]
                show og (oset _ c (.st lv)) c = _
                rw [og_oset, if_pos rfl, h6]
                rfl
          · rw [if_neg hcb] at hk
            refine ⟨kc, ?_, .refl _⟩
            show og (bif selA listed q then _ else _) c = _
            cases selA listed q with
            | false => exact hbs c kc hk
            | true =>
              show og (oset _ b (.st lv)) c = _
              rw [og_oset, if_neg hcb]
              exact hbs c kc hk
      have hp := h5 (F.fo ρ (stS st ds rs (selA listed) q b lv (st.nx + l.length)) stq) ρ a w Q hG (hs.entO hent)
      refine wpOp_of h1 (opWp_mono ?_ hp)
      rintro a' w' ⟨v, rfl, hmd⟩
      have hdi := hdsq i o h1
      obtain ⟨dd, hdd⟩ := Option.isSome_iff_exists.1 h1'
      rw [hdd] at hdi ⊢
      have hbn : ∀ b' k', r.own = some (b', k') → selA listed q = true → b' ≠ b := fun b' k' hb' hq e => by
        subst e
        obtain ⟨av, own⟩ := r
        simp only at hb'
        subst hb'
        have e := resOk_at (hR i _ h2)
        simp only at e
        rcases hstore with ⟨h1, _⟩ | ⟨hql, _, _, hbase, _⟩
        · have : selA listed q = false := by
            unfold selA Array.getD
            rw [dif_neg (by rw [hls, hsz]; omega)]
          rw [this] at hq
          cases hq
        rw [e.2, Bool.or_eq_true] at hbase
        rcases hbase with hbase | hbase
        · cases hbase
        · rw [Bool.and_eq_true, e.1, Nat.add_sub_cancel_left] at hbase
          have := hmq listed hinv q hql hq i hbase.2
          rw [show listed.getD i false = selA listed i from rfl, hi0] at this
          cases this
      have hnewH : ∀ b' k', r.own = some (b', k') → og (ownH ds.length rs (selA listed) 0 st.own) b' = none := fun b' k' hb => by
        obtain ⟨av, own⟩ := r
        simp only at hb
        subst hb
        have h0 := resOk_at (hR i _ h2)
        rw [og_ownH_out (fun q' av' blk _ q1 q2 q3 => ?_)]
        · exact h0.2
        · have h0' := (resOk_at (hR q' _ q3)).1
          have hqi : q' = i := by have := h0.1; simp only at this h0'; omega
          subst hqi
          rw [hi0] at q2
          cases q2
      have hnew : ∀ b' k', r.own = some (b', k') → og (stS st ds rs (selA listed) q b lv (st.nx + l.length)).own b' = none := fun b' k' hb => by
        show og (bif selA listed q then _ else _) b' = none
        cases hq : selA listed q with
        | false => exact hnewH b' k' hb
        | true =>
          show og (oset _ b (.st lv)) b' = none
          rw [og_oset, if_neg (hbn b' k' hb hq)]
          exact hnewH b' k' hb
      have hd : dstOk F.nt (some dd) = true := by
        rw [hN, ← hdd]
        exact List.all_eq_true.1 hdst o (List.mem_of_getElem? h1)
      obtain ⟨ρ', hs'⟩ := hs.add (hmd.lift hent hnew) hd
      refine ⟨by rw [Array.size_setIfInBounds]; exact hls, ρ', hs'.congr (fun t' => ?_) fun c => ?_⟩
      · show gt (tmB st.tm ds rs (selA (listed.setIfInBounds i true)) 0) t' = gt ((dd, r.av) :: tmB st.tm ds rs (selA listed) 0) t'
        rw [gt_cons]
        by_cases hin : ∃ j : Nat, ds[j]? = some (some t')
        · obtain ⟨j, hj⟩ := hin
          rw [gt_tmB_in hds hj, gt_tmB_in hds hj, Nat.zero_add]
          by_cases hji : j = i
          · subst hji
            rw [hdi] at hj
            cases hj
            rw [if_pos rfl]
            unfold pickB
            simp only [h2, hseti]
            rfl
          · have hdt : dd ≠ t' := by
              rintro rfl
              exact hji (dsOk2_inj hds hj hdi)
            rw [if_neg hdt]
            unfold pickB
            simp only [hset j hji]
        · have hin' : ∀ j : Nat, ds[j]? ≠ some (some t') := fun j hj => hin ⟨j, hj⟩
          have hdt : dd ≠ t' := by rintro rfl; exact hin' i hdi
          rw [gt_tmB_out hin', gt_tmB_out hin', if_neg hdt]
      · show og (bif selA (listed.setIfInBounds i true) q then oset (ownH ds.length rs (selA (listed.setIfInBounds i true)) 0 st.own) b (.st lv) else ownH ds.length rs (selA (listed.setIfInBounds i true)) 0 st.own) c = og ((stS st ds rs (selA listed) q b lv (st.nx + l.length)).add (some dd) r).own c
        have hstep := ownH_step (st := st) (rs := rs) (n := ds.length) (r := r) hR (by omega) h2 hseti hi0 hset
        rw [hset q (fun x => hiq x.symm)]
        cases hq : selA listed q with
        | false =>
          show og (ownH ds.length rs (selA (listed.setIfInBounds i true)) 0 st.own) c = _
          rw [hstep c]
          have e : (stS st ds rs (selA listed) q b lv (st.nx + l.length)).own = ownH ds.length rs (selA listed) 0 st.own := by unfold stS; rw [hq]; rfl
          unfold St.add
          simp only [e]
          cases r.own <;> rfl
        | true =>
          show og (oset (ownH ds.length rs (selA (listed.setIfInBounds i true)) 0 st.own) b (.st lv)) c = _
          have e : (stS st ds rs (selA listed) q b lv (st.nx + l.length)).own = oset (ownH ds.length rs (selA listed) 0 st.own) b (.st lv) := by unfold stS; rw [hq]; rfl
          unfold St.add
          simp only [e]
          rw [og_oset, hstep b, hstep c]
          obtain ⟨av', own'⟩ := r
          cases own' with
          | none =>
            show _ = og (oset _ b (.st lv)) c
            rw [og_oset]
          | some p =>
            obtain ⟨b', k'⟩ := p
            have hne := hbn b' k' rfl hq
            show (if c = b then (og ((b', k') :: _) b).map _ else og ((b', k') :: _) c) = og ((b', k') :: oset _ b (.st lv)) c
            rw [og_cons, if_neg hne, og_cons, og_cons, og_oset]
            by_cases hcb : c = b
            · subst hcb
              rw [if_pos rfl, if_neg hne, if_pos rfl]
            · rw [if_neg hcb, if_neg hcb]
  · have hcs : ∀ j, j < l.length → selA listed j = true := fun j hj => hall j (by rw [hsz]; exact hj)
    refine hfin _ a w ?_ ?_ hs
    · unfold stS
      rcases hstore with ⟨h1, _⟩ | ⟨hql, _⟩
      · have : selA listed q = false := by
          unfold selA Array.getD
          rw [dif_neg (by rw [hls, hsz]; omega)]
        rw [if_pos h1, this, ownH_sel (sel' := fun _ => true) (fun k hk => hcs k (by omega))]
        rfl
      · rw [if_neg (by omega), hcs q hql, ownH_sel (sel' := fun _ => true) (fun k hk => hcs k (by omega))]
        rfl
    · intro t'
      show gt (tmB st.tm ds rs (selA listed) 0) t' = _
      rw [tmB_sel (sel' := fun _ => true) (fun k hk => hcs k (by omega))]
  · rw [List.countP_eq_length.2 fun i hi => ?_, List.length_range]
    have : i < l.toArray.size := List.mem_range.1 hi
    rw [getD_in (by simpa using this) (getD_replicate_false _ _)]
    rfl
theorem store_anyZ (hT : TysOk C.P C.tys) {l : List Oper} {K : St → Prop} (h : StoreZ C N l st K) (hG : F.G = C.G) (hN : F.nt = N.nt) {Q : Exit → Act → World → Prop}
    (hQ : ∀ st' a' w', K st' → Sat F st' a' w' → Q .normal a' w') (hs : Sat F st a w) : wpAny C.P .any l.toArray Q l.toArray.size (Array.replicate l.toArray.size false) a w.drew := by
  obtain ⟨q, p, ms, hB, hdst, hv⟩ := h.w
  unfold drawZB at hB
  simp only [Bool.and_eq_true] at hB
  obtain ⟨⟨⟨⟨⟨⟨hbk, hM⟩, hds⟩, hl2⟩, hl3⟩, hpq0⟩, hsee⟩ := hB
  have hpq : p ≠ q := fun e => by rw [e, Nat.beq_refl] at hpq0; cases hpq0
  have hlow : ∀ i j, i < l.length → (ms.getD i 0).testBit j = true → j < i := fun i j hi hj => by
    obtain ⟨_, _, h1, _⟩ := masksOk_at hM hi
    exact h1 j hj
  have hsee' : ∀ i o t, i < l.length → ¬ (i = q ∨ i = p) → l[i]? = some o → t ∈ looks l o → ∀ j : Nat, (l.map (·.dst))[j]? = some (some t) → (ms.getD i 0).testBit j = true ∨ (ms.getD j 0).testBit i = true ∨ j = i := fun i o s hi hiq ho hs j hj => by
    have h1 := List.all_eq_true.1 hsee i (List.mem_range.2 hi)
    rw [ho, show Nat.beq i q = false from nbeq_f fun e => hiq (.inl e), show Nat.beq i p = false from nbeq_f fun e => hiq (.inr e)] at h1
    simp only [Bool.false_or] at h1
    have h2 := List.all_eq_true.1 (List.all_eq_true.1 h1 s hs)
    rw [List.getElem?_map] at hj
    cases hoj : l[j]? with
    | none => rw [hoj] at hj; cases hj
    | some o' =>
      rw [hoj] at hj
      have hd : o'.dst = some s := by simpa using hj
      have h3 := h2 j (List.mem_range.2 (List.getElem?_eq_some_iff.1 hoj).1)
      simp only [hoj, hd, Nat.beq_refl, Bool.not_true, Bool.false_or, Bool.or_eq_true] at h3
      rcases h3 with (h | h) | h
      · exact .inl h
      · exact .inr (.inl h)
      · exact .inr (.inr (Nat.eq_of_beq_eq_true h))
  -- what comes of it, however the store is
  have key : ∀ (p0 b k : Nat) (K' : List (Nat × AV) → List (Nat × Blk) → Prop), (∀ o i, (i = q ∨ i = p) → l[i]? = some o → o.dst = none) → vcFastZ C l st q p p0 b k 0 l [] [] K' → ∃ (rs : List Res) (pre : List (Nat × AV)) (own : List (Nat × Blk)), K' pre own ∧ rs.length = l.length ∧ (∀ q', q' < l.length → HeadOkZ C l (l.map (·.dst)) ms st q p b k rs q') ∧ (∀ q' r, rs[q']? = some r → resOk st q' r = true) ∧
      (∀ s, gt (pre ++ st.tm) s = gt (tmB st.tm (l.map (·.dst)) rs (fun _ => true) 0) s) ∧ ∀ c, og (own ++ st.own) c = og (ownH (l.map (·.dst)).length rs (fun _ => true) 0 st.own) c := fun p0 b k K' hq0 hv => by
    obtain ⟨rs, pre, own, hK, hrl, hfs, hok⟩ := vcFastZ_sound hT (n := l.length) (l := l) (i := 0) (rs := []) (ms := ms) rfl hds rfl hq0 hlow hsee' (by simp) (fun j o ho => by rw [Nat.zero_add]; exact ho) rfl hv ⟨fun j d r _ hr => by simp at hr, fun _ _ => rfl, fun b k => by simp [og]⟩ (fun q r hr => by simp at hr) (fun q hq => by omega)
    have hR : ∀ q' r, rs[q']? = some r → resOk st q' r = true := fun q' r' hq' => by
      have hlt : q' < l.length := by
        rcases Nat.lt_or_ge q' l.length with h | h
        · exact h
        · rw [List.getElem?_eq_none (by omega)] at hq'; cases hq'
      have := hok q' hlt
      unfold HeadOkZ at this
      split at this
      · rw [this] at hq'; cases hq'; rfl
      · obtain ⟨_, r'', _, _, _, g2, g3, _⟩ := this
        rw [hq'] at g2
        cases g2
        exact g3
    refine ⟨rs, pre, own, hK, hrl, hok, hR, fun s => ?_, fun c => ?_⟩
    · by_cases hin : ∃ j : Nat, (l.map (·.dst))[j]? = some (some s)
      · obtain ⟨j, hj⟩ := hin
        have hjl : j < rs.length := by have := (List.getElem?_eq_some_iff.1 hj).1; rw [List.length_map] at this; omega
        rw [gt_tmB_in hds hj, Nat.zero_add, hfs.p1 j s _ hj (List.getElem?_eq_getElem hjl)]
        unfold pickB
        rw [List.getElem?_eq_getElem hjl]
        rfl
      · rw [gt_tmB_out fun j hj => hin ⟨j, hj⟩, hfs.p2 s fun j _ hj => hin ⟨j, hj⟩]
    · have happ : ∀ (l1 l2 : List (Nat × Blk)), og (l1 ++ l2) c = match og l1 c with | some k => some k | none => og l2 c := fun l1 l2 => by
        induction l1 with
        | nil => rfl
        | cons p l1 ih =>
          obtain ⟨p1, p2⟩ := p
          show og ((p1, p2) :: (l1 ++ l2)) c = _
          rw [og_cons, og_cons]
          by_cases h : p1 = c
          · rw [if_pos h, if_pos h]
          · rw [if_neg h, if_neg h]; exact ih
      rw [happ]
      cases ho : og own c with
      | some k =>
        obtain ⟨q', av, hq'⟩ := (hfs.p3 c k).1 ho
        rw [og_ownH_in hR (n := (l.map (·.dst)).length) (Nat.zero_le q') (by have := (List.getElem?_eq_some_iff.1 hq').1; rw [List.length_map]; omega) hq' rfl]
      | none =>
        rw [og_ownH_out fun q' av blk _ _ _ h => ?_]
        have := (hfs.p3 c blk).2 ⟨q', av, h⟩
        rw [ho] at this
        cases this
  unfold vcZ at hv
  split at hv
  case h_2 => exact hv.elim
  rename_i t x y t1 x1 y1 hst hst1
  rw [hst] at hl2
  rw [hst1] at hl3
  simp only [Bool.and_eq_true] at hl2 hl3
  obtain ⟨⟨hql, hlx⟩, hly⟩ := hl2
  obtain ⟨⟨hpl, hpx⟩, hpy⟩ := hl3
  have hql := blt_lt hql
  have hpl := blt_lt hpl
  split at hv
  case h_2 => exact hv.elim
  rename_i d b u p0 ht htb htj
  obtain ⟨hbase', hv⟩ := guardB_out hv
  have hbase : ((og st.own b).isSome || (Nat.ble st.nx b && (ms.getD q 0).testBit (b - st.nx))) = true := by
    unfold tgtB at htb
    split at htb
    · next j hj =>
      cases htb
      have h1 := List.find?_some hj
      have h2 : (l.map (·.dst))[j]? = some (some x) := by
        split at h1
        · next o ho =>
          split at h1
          · next d' hd' =>
            rw [List.getElem?_map, ho, Option.map_some, hd', Nat.eq_of_beq_eq_true h1]
          · cases h1
        · cases h1
      rw [Nat.add_sub_cancel_left, lookB_at hlx h2, Bool.and_true, show Nat.ble st.nx (st.nx + j) = true from Nat.ble_eq_true_of_le (Nat.le_add_right _ _), Bool.or_true]
    · split at htb
      · cases htb
        rw [Bool.false_or] at hbase'
        rw [hbase', Bool.true_or]
      · cases htb
  have hbit : (ms.getD p 0).testBit p0 = true := by
    have h1 := List.find?_some htj
    have h2 : (l.map (·.dst))[p0]? = some (some x1) := by
      split at h1
      · next o ho =>
        split at h1
        · next d' hd' =>
          rw [List.getElem?_map, ho, Option.map_some, hd', Nat.eq_of_beq_eq_true h1]
        · cases h1
      · cases h1
    exact lookB_at hpx h2
  have hst2 : ∀ (q : Nat) (t x y : Nat), storeAt l q = some (t, x, y) → ∃ o, l[q]? = some o ∧ o.op = .store t (.tmp x) (.tmp y) ∧ o.guard = none ∧ o.dst = none := fun q t x y hst => by
    unfold storeAt at hst
    split at hst
    · next o ho =>
      split at hst
      · next h1 h2 h3 => cases hst; exact ⟨o, ho, h1, h2, h3⟩
      · cases hst
    · cases hst
  obtain ⟨oq, hoq, hop, hgq, hdq⟩ := hst2 q t x y hst
  obtain ⟨op1, hop1, hpo, hpg, hpd⟩ := hst2 p t1 x1 y1 hst1
  obtain ⟨rs, pre, own, hK, hrl, hok, hR, hgt, hog⟩ := key p0 b d.size _ (fun o i hi ho => by
    rcases hi with rfl | rfl
    · rw [hoq] at ho; cases ho; exact hdq
    · rw [hop1] at ho; cases ho; exact hpd) hv
  obtain ⟨hJ, hK⟩ := guardB_out hK
  have hjk : JkOk C l (l.map (·.dst)) ms rs st p b := by
    unfold junkOk at hJ
    rw [hst1] at hJ
    simp only at hJ
    split at hJ
    · next d1 l1 b1 ls1 q1 q2 q3 q4 =>
      simp only [Bool.and_eq_true] at hJ
      obtain ⟨⟨⟨⟨⟨j1, j2⟩, j3⟩, j4⟩, j5⟩, j6⟩ := hJ
      obtain rfl := Nat.eq_of_beq_eq_true j1
      rw [hgt] at q2 q3
      rw [hog] at q4
      have hany : ls1 = List.replicate ls1.length .any := by
        clear q4 j4
        induction ls1 with
        | nil => rfl
        | cons a ls1 ih =>
          rw [List.all_cons, Bool.and_eq_true] at j5
          have ha : a = .any := by
            cases a <;> first | rfl | exact absurd (show false = true from j5.1) Bool.false_ne_true
          rw [List.length_cons, List.replicate_succ, ← ih j5.2, ha]
      rw [hany] at q4
      exact ⟨⟨x1, y1, t1, d1, op1, l1, ls1.length, _, hpl, hpx, hpy, hop1, hpo, hpg, hpd, q1, q2, q3, q4, by rw [Bool.and_eq_true]; exact ⟨j2, j3⟩, Nat.eq_of_beq_eq_true j4, (fun e => by
        rw [e, Nat.beq_refl] at j6
        cases j6), (by
        rw [Nat.add_sub_cancel_left, hbit, Bool.and_true]
        exact Nat.ble_eq_true_of_le (Nat.le_add_right _ _))⟩⟩
    · cases hJ
  unfold finS at hK
  split at hK
  · next lv b' ls0 hlv hxv hbv =>
    rw [hgt] at hlv hxv
    rw [hog] at hbv
    obtain ⟨hg, hKK⟩ := guardB_out hK
    clear hK
    simp only [Bool.and_eq_true] at hg
    obtain ⟨⟨⟨⟨g1, g2⟩, g3⟩, g4⟩, g5⟩ := hg
    obtain rfl : b = b' := (Nat.eq_of_beq_eq_true g1).symm
    have g4' := Nat.eq_of_beq_eq_true g4
    have g5' := Nat.eq_of_beq_eq_true g5
    exact store_anyZ2 (lv := lv) (ls0 := ls0) hG hN hT hs hbk hM hds rfl (by simp) hdst hrl hok hR hjk hpq (.inr ⟨hql, hlx, hly, hbase, hoq, hop, hgq, hdq, ht, rfl, hlv, hxv, hbv, g2, g3, g4', g5'⟩) (fun st' a' w' ho htm hS => hQ _ a' w' hKK (by
      obtain ⟨ρ, hS⟩ := hS
      rw [if_neg (by omega)] at ho
      exact ⟨ρ, hS.congr (fun t' => (hgt t').trans (htm t').symm) (fun c => by
        rw [ho]
        show og (oset (own ++ st.own) b (.st lv)) c = _
        rw [og_oset, og_oset, hog, hog])⟩))
  · exact hK.elim
end
end Go.VG

/- States in letters: regions that draw their order, with an append whose place is free. -/
namespace Go.VG
open Go Go.RowKit
section
variable {C : Ctx} {N : Fnx} {st : St} {F : Fix} {ρ : Nat → Value} {a : Act} {w : World}

theorem HeadOk.congr {ops : List Oper} {ds : List (Option Nat)} {ms : List Nat} {rs rs' : List Res} {q : Nat} (h : HeadOk C ops ds ms st rs q) (hq : rs'[q]? = rs[q]?) (hc : ∀ j, (ms.getD q 0).testBit j = true → rs[j]? = rs'[j]?) : HeadOk C ops ds ms st rs' q := by
  obtain ⟨o, r, h1, h2, h3, h4, h5⟩ := h
  exact ⟨o, r, h1, by rw [hq]; exact h2, h3, by rw [← stI_congr hc]; exact h4, by rw [← stI_congr hc]; exact h5⟩
def HeadX (C : Ctx) (ops : List Oper) (ds : List (Option Nat)) (ms : List Nat) (st : St) (b : Nat) (rs : List Res) (q : Nat) : Prop :=
  ∃ o r, ops[q]? = some o ∧ rs[q]? = some r ∧ r.own = none ∧ avB (stX st ds rs (ms.getD q 0) q b ops o).own r.av = true ∧ closedB (stX st ds rs (ms.getD q 0) q b ops o) = true ∧ PureOp C ops.toArray (stX st ds rs (ms.getD q 0) q b ops o) o r
theorem stX_congr {ds : List (Option Nat)} {rs rs' : List Res} {m i b : Nat} {ops : List Oper} {o : Oper} (h : ∀ j, m.testBit j = true → rs[j]? = rs'[j]?) : stX st ds rs m i b ops o = stX st ds rs' m i b ops o := by
  unfold stX
  rw [tmH_congr h]
theorem HeadX.congr {ops : List Oper} {ds : List (Option Nat)} {ms : List Nat} {b : Nat} {rs rs' : List Res} {q : Nat} (h : HeadX C ops ds ms st b rs q) (hq : rs'[q]? = rs[q]?) (hc : ∀ j, (ms.getD q 0).testBit j = true → rs[j]? = rs'[j]?) : HeadX C ops ds ms st b rs' q := by
  obtain ⟨o, r, h1, h2, h3, h4, h5, h6⟩ := h
  exact ⟨o, r, h1, by rw [hq]; exact h2, h3, by rw [← stX_congr hc]; exact h4, by rw [← stX_congr hc]; exact h5, by rw [← stX_congr hc]; exact h6⟩
theorem vcHA_sound (hT : TysOk C.P C.tys) {ops : List Oper} {ds : List (Option Nat)} {ms : List Nat} {n me : Nat} (hlow : ∀ i j, i < n → (ms.getD i 0).testBit j = true → j < i) {K : List Res → Prop} : ∀ {l : List Oper} {i : Nat} {rs : List Res}, i + l.length = n → (∀ j o, l[j]? = some o → ops[i + j]? = some o) → rs.length = i → vcHA C ops ds ms st me i l rs K →
    (∀ q, q < i → (me.testBit q = true → HeadOk C ops ds ms st rs q) ∧ (me.testBit q = false → rs[q]? = some ⟨.any, none⟩)) →
    ∃ rs' : List Res, K rs' ∧ rs'.length = n ∧ ∀ q, q < n → (me.testBit q = true → HeadOk C ops ds ms st rs' q) ∧ (me.testBit q = false → rs'[q]? = some ⟨.any, none⟩)
  | [], i, rs, hn, _, hl, h, hok => ⟨rs, h, by simp at hn; omega, fun q hq => hok q (by simp at hn; omega)⟩
  | o :: l, i, rs, hn, hops, hl, h, hok => by
    rw [vcHA] at h
    have hin : i < n := by simp at hn; omega
    have hnx : ∀ j o', l[j]? = some o' → ops[i + 1 + j]? = some o' := fun j o' ho' => by rw [show i + 1 + j = i + (j + 1) by omega]; exact hops (j + 1) o' (by simpa using ho')
    have hlast : ∀ (r : Res), (rs ++ [r])[i]? = some r := fun r => by rw [List.getElem?_append_right (by omega), hl]; simp
    have hold : ∀ (r : Res) q, q < i → (me.testBit q = true → HeadOk C ops ds ms st (rs ++ [r]) q) ∧ (me.testBit q = false → (rs ++ [r])[q]? = some ⟨.any, none⟩) := fun r q hq => by
      have hqq : (rs ++ [r])[q]? = rs[q]? := List.getElem?_append_left (by omega)
      refine ⟨fun hb => ((hok q hq).1 hb).congr hqq fun j hj => ?_, fun hb => by rw [hqq]; exact (hok q hq).2 hb⟩
      have := hlow q j (by omega) hj
      rw [List.getElem?_append_left (by omega)]
    split at h
    · next hb =>
      obtain ⟨hcl, h⟩ := guardB_out h
      obtain ⟨r, hk, hp⟩ := vcH1_sound hT h
      obtain ⟨hres, hk⟩ := guardB_out hk
      have hcong : ∀ j, (ms.getD i 0).testBit j = true → rs[j]? = (rs ++ [r])[j]? := fun j hj => by
        have := hlow i j hin hj
        rw [List.getElem?_append_left (by omega)]
      refine vcHA_sound hT hlow (by simp at hn ⊢; omega) hnx (by simp; omega) hk fun q hq => ?_
      by_cases hqi : q = i
      · subst hqi
        refine ⟨fun _ => ⟨o, r, by have := hops 0 o rfl; simpa using this, hlast r, hres, ?_, ?_⟩, fun hb' => by rw [hb] at hb'; cases hb'⟩
        · rw [← stI_congr hcong]; exact hcl
        · rw [← stI_congr hcong]; exact hp
      · exact hold r q (by omega)
    · next hb =>
      refine vcHA_sound hT hlow (by simp at hn ⊢; omega) hnx (by simp; omega) h fun q hq => ?_
      by_cases hqi : q = i
      · subst hqi
        exact ⟨fun hb' => (by rw [hb] at hb'; cases hb'), fun _ => hlast _⟩
      · exact hold _ q (by omega)
theorem vcHX_sound (hT : TysOk C.P C.tys) {ops : List Oper} {ds : List (Option Nat)} {ms : List Nat} {n me e b : Nat} (hlow : ∀ i j, i < n → (ms.getD i 0).testBit j = true → j < i) (hcl : ∀ i, i < n → me.testBit i = true → ∀ j, (ms.getD i 0).testBit j = true → me.testBit j = true) {K : List Res → Prop} :
    ∀ {l : List Oper} {i : Nat} {rs : List Res}, i + l.length = n → (∀ j o, l[j]? = some o → ops[i + j]? = some o) → rs.length = n → vcHX C ops ds ms st me e b i l rs K → rs[e]? = some ⟨.any, none⟩ →
    (∀ q, q < n → (me.testBit q = true → HeadOk C ops ds ms st rs q) ∧ (me.testBit q = false → q ≠ e → q < i → HeadX C ops ds ms st b rs q)) →
    ∃ rs' : List Res, K rs' ∧ rs'.length = n ∧ rs'[e]? = some ⟨.any, none⟩ ∧ (∀ j, me.testBit j = true → rs'[j]? = rs[j]?) ∧ ∀ q, q < n → (me.testBit q = true → HeadOk C ops ds ms st rs' q) ∧ (me.testBit q = false → q ≠ e → HeadX C ops ds ms st b rs' q)
  | [], i, rs, hn, _, hl, h, he, hok => ⟨rs, h, hl, he, fun _ _ => rfl, fun q hq => ⟨(hok q hq).1, fun h1 h2 => (hok q hq).2 h1 h2 (by simp at hn; omega)⟩⟩
  | o :: l, i, rs, hn, hops, hl, h, he, hok => by
    rw [vcHX] at h
    have hin : i < n := by simp at hn; omega
    have hnx : ∀ j o', l[j]? = some o' → ops[i + 1 + j]? = some o' := fun j o' ho' => by rw [show i + 1 + j = i + (j + 1) by omega]; exact hops (j + 1) o' (by simpa using ho')
    split at h
    · next hb =>
      refine vcHX_sound hT hlow hcl (by simp at hn ⊢; omega) hnx hl h he fun q hq => ⟨(hok q hq).1, fun h1 h2 h3 => ?_⟩
      by_cases hqi : q = i
      · subst hqi
        rw [h1, Bool.false_or] at hb
        exact absurd (Nat.eq_of_beq_eq_true hb) h2
      · exact (hok q hq).2 h1 h2 (by omega)
    · next hb =>
      rw [Bool.or_eq_false_iff] at hb
      have hie : i ≠ e := fun x => by rw [x, Nat.beq_refl] at hb; cases hb.2
      obtain ⟨hc, h⟩ := guardB_out h
      obtain ⟨r, hk, hp⟩ := vcH1_sound hT h
      obtain ⟨hg, hk⟩ := guardB_out hk
      rw [Bool.and_eq_true] at hg
      have hne : ∀ j, j ≠ i → (rs.set i r)[j]? = rs[j]? := fun j hj => List.getElem?_set_ne (fun x => hj x.symm)
      have hat : (rs.set i r)[i]? = some r := List.getElem?_set_self (by omega)
      obtain ⟨rs', k1, k2, k3, k4, k5⟩ := vcHX_sound hT hlow hcl (rs := rs.set i r) (by simp at hn ⊢; omega) hnx (by rw [List.length_set]; exact hl) hk (by rw [hne e (fun x => hie x.symm)]; exact he) fun q hq => by
        refine ⟨fun hq1 => ((hok q hq).1 hq1).congr (hne q (fun x => by rw [x, hb.1] at hq1; cases hq1)) fun j hj => (hne j fun x => ?_).symm, fun h1 h2 h3 => ?_⟩
        · have := hcl q hq hq1 j hj
          rw [x, hb.1] at this
          cases this
        · by_cases hqi : q = i
          · subst hqi
            have hcg : ∀ j, (ms.getD q 0).testBit j = true → rs[j]? = (rs.set q r)[j]? := fun j hj => (hne j (by have := hlow q j hq hj; omega)).symm
            exact ⟨o, r, by have := hops 0 o rfl; simpa using this, hat, by simpa using hg.1, by rw [← stX_congr hcg]; exact hg.2, by rw [← stX_congr hcg]; exact hc, by rw [← stX_congr hcg]; exact hp⟩
          · exact ((hok q hq).2 h1 h2 (by omega)).congr (hne q hqi) fun j hj => (hne j (by have := hlow q j hq hj; omega)).symm
      exact ⟨rs', k1, k2, k3, fun j hj => (k4 j hj).trans (hne j fun x => by rw [x, hb.1] at hj; cases hj), k5⟩
theorem scrub_id {own : List (Nat × Blk)} {b : Nat} (hb : og own b = none) {l : Leaf} (h : leafB own l = true) : scrubL b l = l := by
  have hne : ∀ c, (og own c).isSome = true → Nat.beq c b = false := fun c hc => nbeq_f fun x => by rw [x, hb] at hc; cases hc
  cases l with
  | loc c o => show (bif _ then _ else _) = _; rw [hne c h]; rfl
  | row c => show (bif _ then _ else _) = _; rw [hne c h]; rfl
  | rl c k i j => show (bif _ then _ else _) = _; rw [hne c h]; rfl
  | rs c k l m V => show (bif _ then _ else _) = _; rw [hne c h]; rfl
  | fn f bs =>
    show (bif _ then _ else _) = _
    have : (bs.any fun c => Nat.beq c b) = false := by
      rw [List.any_eq_false]
      intro c hc
      rw [hne c (List.all_eq_true.1 h c hc)]
      simp
    rw [this]; rfl
  | _ => rfl
theorem scrubs_id {own : List (Nat × Blk)} {b : Nat} (hb : og own b = none) {l : List Leaf} (h : l.all (leafB own) = true) : l.map (scrubL b) = l := by
  have e : l.map (scrubL b) = l.map id := List.map_congr_left fun x hx => scrub_id hb (List.all_eq_true.1 h x hx)
  rw [e, List.map_id]
theorem scrubV_id {own : List (Nat × Blk)} {b : Nat} (hb : og own b = none) {x : V1} (h : v1B own x = true) : scrubV1 b x = x := by
  cases x with
  | c l => exact congrArg V1.c (scrub_id hb h)
  | agg ls => exact congrArg V1.agg (scrubs_id hb h)
theorem scrubA_id {own : List (Nat × Blk)} {b : Nat} (hb : og own b = none) {x : AV} (h : avB own x = true) : scrubAV b x = x := by
  cases x with
  | any => rfl
  | v x => exact congrArg AV.v (scrubV_id hb h)
  | tup ts =>
    have e : ts.map (scrubV1 b) = ts.map id := List.map_congr_left fun x hx => scrubV_id hb (List.all_eq_true.1 h x hx)
    exact congrArg AV.tup (by rw [e, List.map_id])
theorem scrub_le (b : Nat) (l : Leaf) : LeafLe l (scrubL b l) := by
  cases l with
  | loc c o => show LeafLe _ (bif _ then _ else _); cases Nat.beq c b <;> first | exact .refl _ | exact .any _
  | row c => show LeafLe _ (bif _ then _ else _); cases Nat.beq c b <;> first | exact .refl _ | exact .any _
  | rl c k i j => show LeafLe _ (bif _ then _ else _); cases Nat.beq c b <;> first | exact .refl _ | exact .any _
  | rs c k l m V => show LeafLe _ (bif _ then _ else _); cases Nat.beq c b <;> first | exact .refl _ | exact .any _
  | fn f bs => show LeafLe _ (bif _ then _ else _); cases (bs.any fun c => Nat.beq c b) <;> first | exact .refl _ | exact .any _
  | _ => exact .refl _
theorem scrubs_le (b : Nat) : ∀ l : List Leaf, LsLe l (l.map (scrubL b))
  | [] => .nil
  | l :: ls => .cons (scrub_le b l) (scrubs_le b ls)
theorem scrubB_le (b : Nat) (k : Blk) : BlkLe k (scrubBlk b k) := by
  cases k with
  | st ls => exact .st (scrubs_le b ls)
  | rw => exact .refl _
theorem og_stX {ds : List (Option Nat)} {rs : List Res} {m i b : Nat} {ops : List Oper} {o : Oper} (c : Nat) : og (stX st ds rs m i b ops o).own c = if c = b then none else (og st.own c).map (scrubBlk b) := by
  show og ((oerase st.own b).map fun p => (p.1, scrubBlk b p.2)) c = _
  rw [og_map, og_oerase]
  split <;> rfl
theorem entX {ops : List Oper} {ds : List (Option Nat)} {rs : List Res} {nx m i b : Nat} {o : Oper} {sel : Nat → Bool} (hdsk : dsOk ds = true) (hR : ∀ q r, rs[q]? = some r → resOk st q r = true) (hmi : ∀ j, m.testBit j = true → sel j = true) (hcl : closedB (stX st ds rs m i b ops o) = true) :
    EntL (stH st ds rs sel nx) (stX st ds rs m i b ops o) := by
  refine ⟨fun t => ?_, fun c k hk => ?_, hcl⟩
  · show AvLe (gt (tmH ds rs sel 0 st.tm) t) (gt ((looks ops o).map fun t => (t, gt (tmH ds rs (fun j => m.testBit j) 0 st.tm) t)) t)
    rw [gt_looks]
    split
    · by_cases hin : ∃ j : Nat, ds[j]? = some (some t)
      · obtain ⟨j, hj⟩ := hin
        rw [gt_tmH_in hdsk hj, gt_tmH_in hdsk hj, Nat.zero_add]
        cases hb : m.testBit j with
        | false =>
          have : pick rs (fun j => m.testBit j) j = .any := by
            unfold pick
            simp only [hb]
            cases rs[j]? <;> rfl
          rw [this]
          exact .any _
        | true =>
          have e : pick rs (fun j => m.testBit j) j = pick rs sel j := by
            unfold pick
            simp only [hb, show sel j = true from hmi j hb]
          rw [e]
          exact .refl _
      · have hin' : ∀ j : Nat, ds[j]? ≠ some (some t) := fun j hj => hin ⟨j, hj⟩
        rw [gt_tmH_out hin', gt_tmH_out hin']
        exact .refl _
    · exact .any _
  · rw [og_stX] at hk
    split at hk
    · cases hk
    · cases h0 : og st.own c with
      | none => rw [h0] at hk; cases hk
      | some k0 =>
        rw [h0] at hk
        cases hk
        refine ⟨k0, ?_, scrubB_le b k0⟩
        show og (ownH ds.length rs sel 0 st.own) c = some k0
        rw [og_ownH_out (fun q av blk _ _ _ q3 => ?_)]
        · exact h0
        · have := (resOk_at (hR q _ q3)).2
          rw [this] at h0
          cases h0
theorem og_appSt (s : St) (b : Nat) (d : Option Nat) (k : Blk) (c : Nat) : og (appSt s b d k).own c = if c = s.nx then some k else if c = b then none else (og s.own c).map (scrubBlk b) := by
  show og ((s.nx, k) :: (oerase s.own b).map fun p => (p.1, scrubBlk b p.2)) c = _
  rw [og_cons, og_map, og_oerase]
  by_cases hc : s.nx = c
  · rw [if_pos hc, if_pos (show c = s.nx from hc.symm)]
  · rw [if_neg hc, if_neg (show ¬ c = s.nx from fun x => hc x.symm)]
    split <;> rfl
theorem gt_appSt (s : St) (b d : Nat) (k : Blk) (t : Nat) : gt (appSt s b (some d) k).tm t = if d = t then .v (.c (.row s.nx)) else scrubAV b (gt s.tm t) := by
  show gt ((d, AV.v (.c (.row s.nx))) :: s.tm.map fun p => (p.1, scrubAV b p.2)) t = _
  rw [gt_cons, gt_map _ rfl]
theorem entXA {ops : List Oper} {ds : List (Option Nat)} {rs : List Res} {nx m i b d e : Nat} {blk : Blk} {o : Oper} {sel : Nat → Bool} (hdsk : dsOk ds = true) (hR : ∀ q r, rs[q]? = some r → resOk st q r = true) (hmi : ∀ j, m.testBit j = true → sel j = true) (hcl : closedB (stX st ds rs m i b ops o) = true)
    (hde : ds[e]? = some (some d)) (hme : m.testBit e = false) (hnx : og st.own nx = none) : EntL (appSt (stH st ds rs sel nx) b (some d) blk) (stX st ds rs m i b ops o) := by
  have E := entX (nx := nx) (o := o) (sel := sel) hdsk hR hmi hcl
  have hbn : og (stX st ds rs m i b ops o).own b = none := by rw [og_stX, if_pos rfl]
  refine ⟨fun t => ?_, fun c k hk => ?_, hcl⟩
  · rw [gt_appSt]
    have hav : avB (stX st ds rs m i b ops o).own (gt (stX st ds rs m i b ops o).tm t) = true := by
      unfold closedB at hcl
      rw [Bool.and_eq_true] at hcl
      exact gt_mem (p := avB (stX st ds rs m i b ops o).own) hcl.1 rfl
    have hgx : gt (stX st ds rs m i b ops o).tm t = if t ∈ looks ops o then gt (tmH ds rs (fun j => m.testBit j) 0 st.tm) t else .any := gt_looks
    by_cases hdt : d = t
    · subst hdt
      have : gt (stX st ds rs m i b ops o).tm d = .any := by
        rw [hgx]
        split
        · rw [gt_tmH_in hdsk hde, Nat.zero_add]
          unfold pick
          simp only [hme]
          cases rs[e]? <;> rfl
        · rfl
      rw [this]
      exact .any _
    · rw [if_neg hdt]
      show AvLe (scrubAV b (gt (tmH ds rs sel 0 st.tm) t)) _
      by_cases hany : gt (stX st ds rs m i b ops o).tm t = .any
      · rw [hany]; exact .any _
      · have heq : gt (tmH ds rs sel 0 st.tm) t = gt (stX st ds rs m i b ops o).tm t := by
          rw [hgx] at hany ⊢
          split at hany
          · next htl =>
            rw [if_pos htl]
            by_cases hin : ∃ j : Nat, ds[j]? = some (some t)
            · obtain ⟨j, hj⟩ := hin
              rw [gt_tmH_in hdsk hj] at hany ⊢
              rw [gt_tmH_in hdsk hj]
              rw [Nat.zero_add] at *
              cases hb : m.testBit j with
              | false =>
                exfalso
                apply hany
                unfold pick
                simp only [hb]
                cases rs[j]? <;> rfl
              | true =>
                unfold pick
                simp only [hb, show sel j = true from hmi j hb]
            · have hin' : ∀ j : Nat, ds[j]? ≠ some (some t) := fun j hj => hin ⟨j, hj⟩
              rw [gt_tmH_out hin', gt_tmH_out hin']
          · exact absurd rfl hany
        rw [heq, scrubA_id hbn hav]
        exact .refl _
  · obtain ⟨k0, h0, _⟩ := E.own c k hk
    rw [og_stX] at hk
    split at hk
    · cases hk
    · next hcb =>
      cases h1 : og st.own c with
      | none => rw [h1] at hk; cases hk
      | some k1 =>
        rw [h1] at hk
        cases hk
        have hcn : ¬ c = (stH st ds rs sel nx).nx := fun x => by
          have : c = nx := x
          rw [this, hnx] at h1
          cases h1
        refine ⟨_, ?_, .refl _⟩
        rw [og_appSt, if_neg hcn, if_neg hcb]
        have h2 : og (stH st ds rs sel nx).own c = some k1 := by
          show og (ownH ds.length rs sel 0 st.own) c = some k1
          rw [og_ownH_out (fun q av blk _ _ _ q3 => ?_)]
          · exact h1
          · have := (resOk_at (hR q _ q3)).2
            rw [this] at h1
            cases h1
        rw [h2]
        rfl
theorem ownH_swap {rs : List Res} {sel sel' : Nat → Bool} {i : Nat} {r : Res} (hr : rs[i]? = some r) (ho : r.own = none) (h : ∀ q, q ≠ i → sel q = sel' q) : ∀ {n k : Nat} {base : List (Nat × Blk)}, ownH n rs sel k base = ownH n rs sel' k base
  | 0, _, _ => rfl
  | n + 1, k, base => by
    rw [ownH, ownH, ownH_swap hr ho h]
    by_cases hk : k = i
    · subst hk
      rw [hr]
      obtain ⟨av, own⟩ := r
      cases ho
      rfl
    · rw [h k hk]
theorem drawX_step {ops : List Oper} {ds : List (Option Nat)} {rs : List Res} {n nx b d e : Nat} {blk : Blk} (hds : ds = (ops.take n).map (·.dst)) (hn : n ≤ ops.length) (hrl : rs.length = n) (hdsk : dsOk ds = true) (hdst : ((ops.take n).all fun o => dstOk N.nt o.dst) = true)
    (hG : F.G = C.G) (hN : F.nt = N.nt) {Q : Exit → Act → World → Prop} {listed : Array Bool} {i : Nat} {o : Oper} {r : Res} {stq : St} (hi : i < n) (h1 : ops[i]? = some o) (h2 : rs[i]? = some r) (hro : r.own = none) (hie : i ≠ e) (hde : ds[e]? = some (some d)) (hr : i ∈ Region.ready .any ops.toArray listed) (hinv : HeadInv .any ops.toArray n listed)
    (hent : EntL (appSt (stH st ds rs (selA listed) nx) b (some d) blk) stq) (hsc : scrubAV b r.av = r.av) (h5 : PureOp C ops.toArray stq o r) (hs : Sat F (appSt (stH st ds rs (selA listed) nx) b (some d) blk) a w) :
    wpOp C.P ops.toArray Q i (fun a' w' => Sat F (appSt (stH st ds rs (selA (listed.setIfInBounds i true)) nx) b (some d) blk) a' w') a w := by
  obtain ⟨ρ, hs⟩ := hs
  obtain ⟨hi1, hi2, hi3⟩ := ready_mem hr
  have hisz : i < listed.size := by rw [hinv.size]; simpa using hi1
  have hdl : ds.length = n := by rw [hds]; simp; omega
  have hdi : ds[i]? = some o.dst := by
    rw [hds, List.getElem?_map, List.getElem?_take, if_pos hi, h1]
    rfl
  have hp := h5 (F.fo ρ (appSt (stH st ds rs (selA listed) nx) b (some d) blk) stq) ρ a w Q hG (hs.entO hent)
  refine wpOp_of h1 (opWp_mono ?_ hp)
  rintro a' w' ⟨v, rfl, hm⟩
  cases hdst' : o.dst with
  | none =>
    exfalso
    rw [hdst'] at hdi
    exact dsOk_some hdsk hdi
  | some di =>
    rw [hdst'] at hdi
    have hd : dstOk F.nt (some di) = true := by
      rw [hN, ← hdst']
      exact List.all_eq_true.1 hdst o (List.mem_of_getElem? (show (ops.take n)[i]? = some o by rw [List.getElem?_take, if_pos hi]; exact h1))
    obtain ⟨ρ', hs'⟩ := hs.add (hm.lift hent fun b k h => by rw [hro] at h; cases h) hd
    refine ⟨ρ', hs'.congr (fun t => ?_) fun c => ?_⟩
    · show _ = gt ((di, r.av) :: (appSt (stH st ds rs (selA listed) nx) b (some d) blk).tm) t
      have hdd : d ≠ di := fun x => hie (dsOk_inj hdsk hdi (x ▸ hde))
      rw [gt_cons, gt_appSt, gt_appSt]
      by_cases htd : d = t
      · subst htd
        rw [if_pos rfl, if_neg (fun x => hdd x.symm), if_pos rfl]
        rfl
      · rw [if_neg htd, if_neg htd]
        show scrubAV b (gt (tmH ds rs _ 0 st.tm) t) = _
        by_cases hti : di = t
        · subst hti
          rw [if_pos rfl, gt_tmH_in hdsk hdi, Nat.zero_add]
          unfold pick
          simp only [h2, sel_set hisz, if_pos]
          exact hsc
        · rw [if_neg hti]
          show _ = scrubAV b (gt (tmH ds rs _ 0 st.tm) t)
          congr 1
          by_cases hin : ∃ j : Nat, ds[j]? = some (some t)
          · obtain ⟨j, hj⟩ := hin
            rw [gt_tmH_in hdsk hj, gt_tmH_in hdsk hj, Nat.zero_add]
            have hji : j ≠ i := fun x => by rw [x, hdi] at hj; exact hti (by simpa using hj)
            unfold pick
            simp only [sel_set hisz, if_neg hji]
          · have hin' : ∀ j : Nat, ds[j]? ≠ some (some t) := fun j hj => hin ⟨j, hj⟩
            rw [gt_tmH_out hin', gt_tmH_out hin']
    · have e1 : (((appSt (stH st ds rs (selA listed) nx) b (some d) blk).add (some di) r).own) = (appSt (stH st ds rs (selA listed) nx) b (some d) blk).own := by
        unfold St.add
        rw [hro]
      rw [e1, og_appSt, og_appSt]
      show (if c = nx then _ else _) = (if c = nx then _ else _)
      have e2 : og (stH st ds rs (selA (listed.setIfInBounds i true)) nx).own c = og (stH st ds rs (selA listed) nx).own c := by
        show og (ownH ds.length rs _ 0 st.own) c = og (ownH ds.length rs _ 0 st.own) c
        congr 1
        exact ownH_swap h2 hro fun q hq => by rw [sel_set hisz, if_neg hq]
      rw [e2]
theorem appd_sound (hT : TysOk C.P C.tys) (hm : C.P.follows .mixedOrders = true) {l : List Oper} {K : St → Prop} (h : AppdOb C N l st K) (hG : F.G = C.G) (hN : F.nt = N.nt) {Q : Exit → Act → World → Prop}
    (hQ : ∀ st' a' w', K st' → Sat F st' a' w' → Q .normal a' w') (hs : Sat F st a w) (id : Nat) : (Code.region id l.toArray true).wp C.P Q a w := by
  obtain ⟨n, e, ms, d, s, x, t, hB, hdst, hE, hv⟩ := h.w
  unfold drawAB at hB
  simp only [Bool.and_eq_true] at hB
  obtain ⟨⟨⟨⟨⟨⟨hen, hF⟩, hM⟩, hds⟩, hst⟩, hfree⟩, hclo⟩ := hB
  have hen := blt_lt hen
  unfold Region.factsB at hF
  simp only [Bool.and_eq_true, decide_eq_true_eq] at hF
  obtain ⟨⟨⟨⟨hnlt, hs1⟩, hc⟩, hbk⟩, hseq⟩ := hF
  have hnl : n ≤ l.length := by omega
  have htl : (l.take n).length = n := by rw [List.length_take]; omega
  have hsz : l.toArray.size = l.length := by simp
  have hlow : ∀ i j, i < n → (ms.getD i 0).testBit j = true → j < i := fun i j hi hj => by
    obtain ⟨_, _, h1, _⟩ := masksOk_at hM hi
    exact h1 j hj
  have hops : ∀ (j : Nat) (o : Oper), (l.take n)[j]? = some o → l[0 + j]? = some o := fun j o ho => by
    rw [Nat.zero_add]
    rw [List.getElem?_take] at ho
    split at ho
    · exact ho
    · cases ho
  have hfr : ∀ i, i < n → (ms.getD i 0).testBit e = false := fun i hi => by
    have := List.all_eq_true.1 hfree i (List.mem_range.2 hi)
    simpa using this
  have hclos : ∀ i, i < n → (ms.getD e 0).testBit i = true → ∀ j, (ms.getD i 0).testBit j = true → (ms.getD e 0).testBit j = true := fun i hi hb j hj => by
    have h1 := List.all_eq_true.1 hclo i (List.mem_range.2 hi)
    rw [hb] at h1
    have h2 := List.all_eq_true.1 (show _ = true from h1) j (List.mem_range.2 (by have := hlow i j hi hj; omega))
    rw [hj] at h2
    exact h2
  have hee := hfr e hen
  obtain ⟨oe, args, ts, hoe, hg, hd, hop, ha, hts⟩ : ∃ (oe : Oper) (args : Array Operand) (ts : Array TypeId), l[e]? = some oe ∧ oe.guard = none ∧ oe.dst = some d ∧ oe.op = .call ⟨.builtin .append, args, ts⟩ ∧ args.toList = [s, x] ∧ ts.toList = [t, t] := by
    unfold appE at hE
    split at hE
    · next o ho =>
      split at hE
      · next d' args ts h1 h2 h3 =>
        split at hE
        · next s' x' t1 t2 h4 h5 =>
          cases hb : Nat.beq t1 t2 with
          | false => rw [hb] at hE; cases hE
          | true =>
            rw [hb] at hE
            cases hE
            obtain rfl := Nat.eq_of_beq_eq_true hb
            exact ⟨o, args, ts, ho, h1, h2, h3, h4, h5⟩
        · cases hE
      · cases hE
    · cases hE
  unfold vcAp at hv
  obtain ⟨rsA, hv, hAl, hA⟩ := vcHA_sound hT (n := n) (l := l.take n) (i := 0) (rs := []) hlow (by rw [htl, Nat.zero_add]) hops rfl hv (fun q hq => by omega)
  split at hv
  case h_2 => exact hv.elim
  rename_i el sz sb z ht
  split at hv
  case h_2 => exact hv.elim
  rename_i dd he
  split at hv
  case h_2 => exact hv.elim
  rename_i k' β mk' Y m b hx hs0
  split at hv
  case h_2 => exact hv.elim
  rename_i k e' u α mk Z q hbw
  obtain ⟨b1, hv⟩ := guardB_out hv
  obtain ⟨b2, hO⟩ := guardB_out hv
  have hm2 := hO.a
  obtain ⟨Y', hle, hp, hk⟩ := hO.b.w
  obtain ⟨rs', hk, hrl, hre, hsame, hall⟩ := vcHX_sound hT (n := n) (l := l.take n) (i := 0) hlow hclos (by rw [htl, Nat.zero_add]) hops hAl hk ((hA e hen).2 hee) (fun q hq => ⟨(hA q hq).1, fun _ _ h => by omega⟩)
  have hR : ∀ q r, rs'[q]? = some r → resOk st q r = true := fun q r hq => by
    have hlt : q < n := by
      rcases Nat.lt_or_ge q n with h | h
      · exact h
      · rw [List.getElem?_eq_none (by omega)] at hq; cases hq
    by_cases hme : (ms.getD e 0).testBit q = true
    · obtain ⟨_, r'', _, g2, g3, _⟩ := (hall q hlt).1 hme
      rw [hq] at g2
      cases g2
      exact g3
    · by_cases hqe : q = e
      · rw [hqe, hre] at hq
        cases hq
        rfl
      · obtain ⟨_, r'', _, g2, g3, _⟩ := (hall q hlt).2 (by simpa using hme) hqe
        rw [hq] at g2
        cases g2
        unfold resOk
        rw [g3]
  have hdl : ((l.take n).map (·.dst)).length = n := by rw [List.length_map, htl]
  have hde : ((l.take n).map (·.dst))[e]? = some (some d) := by
    rw [List.getElem?_map, List.getElem?_take, if_pos hen, hoe, ← hd]
    rfl
  have hnx : og st.own (st.nx + n) = none := by
    simp only [Bool.and_eq_true] at b1
    simpa using b1.2
  have hSo : ∀ (sel : Nat → Bool) (c : Nat) (k1 : Blk), og st.own c = some k1 → og (ownH ((l.take n).map (·.dst)).length rs' sel 0 st.own) c = some k1 := fun sel c k1 h0 => by
    rw [og_ownH_out (fun q av blk _ _ _ q3 => ?_)]
    · exact h0
    · have := (resOk_at (hR q _ q3)).2
      rw [this] at h0
      cases h0
  have hSn : ∀ (sel : Nat → Bool), og (ownH ((l.take n).map (·.dst)).length rs' sel 0 st.own) (st.nx + n) = none := fun sel => by
    rw [og_ownH_out (fun q av blk _ hq _ q3 => ?_)]
    · exact hnx
    · have := (resOk_at (hR q _ q3)).1
      simp only at this
      omega
  generalize hds' : (l.take n).map (·.dst) = ds at *
  have hgt : ∀ (sel : Nat → Bool), (∀ j, (ms.getD e 0).testBit j = true → sel j = true) → ∀ t, gt (tmH ds rsA (fun j => (ms.getD e 0).testBit j) 0 st.tm) t ≠ .any → gt (tmH ds rs' sel 0 st.tm) t = gt (tmH ds rsA (fun j => (ms.getD e 0).testBit j) 0 st.tm) t := fun sel hL t hne => by
    by_cases hin : ∃ j : Nat, ds[j]? = some (some t)
    · obtain ⟨j, hj⟩ := hin
      rw [gt_tmH_in hds hj] at hne ⊢
      rw [gt_tmH_in hds hj]
      rw [Nat.zero_add] at *
      cases hb : (ms.getD e 0).testBit j with
      | false =>
        exfalso
        apply hne
        unfold pick
        simp only [hb]
        cases rsA[j]? <;> rfl
      | true =>
        unfold pick
        rw [hsame j hb]
        simp only [hb, hL j hb]
    · have hin' : ∀ j : Nat, ds[j]? ≠ some (some t) := fun j hj => hin ⟨j, hj⟩
      rw [gt_tmH_out hin', gt_tmH_out hin']
  have hev : ∀ (sel : Nat → Bool), (∀ j, (ms.getD e 0).testBit j = true → sel j = true) → ∀ (y : Operand) (l0 : Leaf), ev (stH st ds rsA (fun j => (ms.getD e 0).testBit j) 0) y = .v (.c l0) → ev (stH st ds rs' sel (st.nx + n)) y = .v (.c l0) := fun sel hL y l0 hy => by
    cases y with
    | tmp t =>
      have h1 : gt (tmH ds rsA (fun j => (ms.getD e 0).testBit j) 0 st.tm) t = .v (.c l0) := hy
      exact (hgt sel hL t (by rw [h1]; intro h; cases h)).trans h1
    | const _ => exact hy
    | global _ => exact hy
    | func _ => exact hy
  have hRA : ∀ q r, rsA[q]? = some r → resOk st q r = true := fun q r hq => by
    have hlt : q < n := by
      rcases Nat.lt_or_ge q n with h | h
      · exact h
      · rw [List.getElem?_eq_none (by omega)] at hq; cases hq
    by_cases hme : (ms.getD e 0).testBit q = true
    · obtain ⟨_, r'', _, g2, g3, _⟩ := (hA q hlt).1 hme
      rw [hq] at g2
      cases g2
      exact g3
    · rw [(hA q hlt).2 (by simpa using hme)] at hq
      cases hq
      rfl
  have hbw' : ∀ (sel : Nat → Bool), (∀ j, (ms.getD e 0).testBit j = true → sel j = true) → og (ownH ds.length rs' sel 0 st.own) b = some (.rw k e' u α mk Z q) := fun sel hL => by
    by_cases hex : ∃ (q : Nat) (av : AV) (blk : Blk), q < ds.length ∧ (ms.getD e 0).testBit q = true ∧ rsA[q]? = some ⟨av, some (b, blk)⟩
    · obtain ⟨q, av, blk, q1, q2, q3⟩ := hex
      rw [og_ownH_in hRA (Nat.zero_le _) (by omega) q3 q2] at hbw
      rw [og_ownH_in hR (Nat.zero_le _) (by omega) (by rw [hsame q q2]; exact q3) (hL q q2)]
      exact hbw
    · rw [og_ownH_out (fun q av blk _ q1 q2 q3 => hex ⟨q, av, blk, by omega, q2, q3⟩)] at hbw
      exact hSo sel b _ hbw
  have hdd : dstOk N.nt oe.dst = true := List.all_eq_true.1 hdst oe (List.mem_of_getElem? (show (l.take n)[e]? = some oe by rw [List.getElem?_take, if_pos hen]; exact hoe))
  obtain ⟨blk, hblk⟩ : ∃ blk : Blk, blk = .rw k e' u α mk (appZ α Z Y' q) (q + m) := ⟨_, rfl⟩
  have hE2 : ∀ (sel : Nat → Bool), (∀ j, (ms.getD e 0).testBit j = true → sel j = true) → StepOp C N l.toArray (stH st ds rs' sel (st.nx + n)) oe (fun st' => st' = appSt (stH st ds rs' sel (st.nx + n)) b (some d) blk) := fun sel hL => by
    refine step_app_row hT hg hop ha hts hdd ht he (hev sel hL x _ hx) (hev sel hL s _ hs0) (hbw' sel hL) ?_ ?_
    · simp only [Bool.and_eq_true] at b1 ⊢
      refine ⟨b1.1, ?_⟩
      show (og (ownH ds.length rs' sel 0 st.own) (st.nx + n)).isNone = true
      rw [hSn]
      rfl
    · rw [show guardB _ _ = guardB true _ from by rw [b2]]
      exact ⟨hm2, ⟨Y', hle, hp, by rw [hd, hblk]⟩⟩
  rw [← hblk] at hk
  obtain ⟨ρ, hs⟩ := hs
  have hsel0 : ∀ j, selA (Array.replicate l.toArray.size false) j = false := fun j => getD_replicate_false _ _
  refine wp_region_any hm ?_
  have hinv : HeadInv .any l.toArray n (Array.replicate l.toArray.size false) := ⟨by simp, fun j oj _ hl => (by rw [getD_replicate_false] at hl; cases hl), fun t _ ht => getD_in (by simpa using ht) (getD_replicate_false _ _)⟩
  have hcnt : (List.range n).countP (fun i => !(Array.replicate l.toArray.size false).getD i true) = n := by
    rw [List.countP_eq_length.2 fun i hi => ?_, List.length_range]
    have : i < l.toArray.size := by have := List.mem_range.1 hi; omega
    rw [getD_in (by simpa using this) (getD_replicate_false _ _)]
    rfl
  have key := wpAny_inv_tail (P := C.P) (Q := Q) (md := .any) (n := n) (g := l.length - n) (by rw [hsz]; omega) (by omega) hs1 hc hbk
    (fun listed a w => Sat F (bif selA listed e then appSt (stH st ds rs' (selA listed) (st.nx + n)) b (some d) blk else stH st ds rs' (selA listed) (st.nx + n)) a w)
    (fun listed i a w hi hr hinv hs => ?_)
    (fun a w hs => seq_size hseq (vcSeq_sound hT hG hN hst hk hQ (by
      have hh : selA (headDone n l.toArray.size) e = true := by
        unfold selA headDone
        rw [Array.getD_eq_getD_getElem?, Array.getElem?_append_left (by simp; omega)]
        simp [hen]
      rw [hh] at hs
      have := stH_sel (rs := rs') (sel := selA (headDone n l.toArray.size)) (sel' := fun _ => true) (fun k hk => by
        unfold selA headDone
        rw [Array.getD_eq_getD_getElem?, Array.getElem?_append_left (by simp; omega)]
        simp [show k < n by omega]) st ds (st.nx + n)
      rw [← this]
      exact hs))) n (Array.replicate l.toArray.size false) a w.drew hinv (by rw [hsel0]; exact ⟨ρ, stH_none st hds rs' hsel0 _ hs.drew⟩) hcnt
  · rw [show n + (l.length - n) = l.toArray.size by rw [hsz]; omega] at key
    exact key
  · obtain ⟨hi1, hi2, hi3⟩ := ready_mem hr
    have hisz : i < listed.size := by rw [hinv.size]; simpa using hi1
    have hsi : selA listed i = false := by
      unfold selA
      unfold Array.getD at hi2 ⊢
      rw [dif_pos hisz] at hi2 ⊢
      exact hi2
    have hmi := draw_mask hM hi hr hinv
    have hds2 : ds = (l.take n).map (·.dst) := hds'.symm
    by_cases hie : i = e
    · subst hie
      rw [hsi] at hs
      have h1 := hE2 (selA listed) hmi F a w Q hG hN hs
      refine wpOp_of hoe (opWp_mono ?_ h1)
      rintro a' w' ⟨st', rfl, hs'⟩
      obtain ⟨ρ', hs'⟩ := hs'
      rw [sel_set hisz, if_pos rfl]
      refine ⟨ρ', hs'.congr (fun t' => ?_) fun c => ?_⟩
      · show gt (appSt (stH st ds rs' (selA (listed.setIfInBounds i true)) (st.nx + n)) b (some d) blk).tm t' = gt (appSt (stH st ds rs' (selA listed) (st.nx + n)) b (some d) blk).tm t'
        rw [gt_appSt, gt_appSt]
        show (if d = t' then _ else scrubAV b (gt (tmH ds rs' _ 0 st.tm) t')) = (if d = t' then _ else scrubAV b (gt (tmH ds rs' _ 0 st.tm) t'))
        congr 2
        by_cases hin : ∃ j : Nat, ds[j]? = some (some t')
        · obtain ⟨j, hj⟩ := hin
          rw [gt_tmH_in hds hj, gt_tmH_in hds hj, Nat.zero_add]
          unfold pick
          by_cases hji : j = i
          · rw [hji, hre]
            simp only
            cases selA (listed.setIfInBounds i true) i <;> cases selA listed i <;> rfl
          · rw [sel_set hisz, if_neg hji]
        · have hin' : ∀ j : Nat, ds[j]? ≠ some (some t') := fun j hj => hin ⟨j, hj⟩
          rw [gt_tmH_out hin', gt_tmH_out hin']
      · show og (appSt (stH st ds rs' (selA (listed.setIfInBounds i true)) (st.nx + n)) b (some d) blk).own c = og (appSt (stH st ds rs' (selA listed) (st.nx + n)) b (some d) blk).own c
        rw [og_appSt, og_appSt]
        have e2 : og (stH st ds rs' (selA (listed.setIfInBounds i true)) (st.nx + n)).own c = og (stH st ds rs' (selA listed) (st.nx + n)).own c := by
          show og (ownH ds.length rs' _ 0 st.own) c = og (ownH ds.length rs' _ 0 st.own) c
          congr 1
          exact ownH_swap hre rfl fun q hq => by rw [sel_set hisz, if_neg hq]
        rw [e2]
        rfl
    · have hse : selA (listed.setIfInBounds i true) e = selA listed e := by rw [sel_set hisz, if_neg (fun x => hie x.symm)]
      rw [hse]
      by_cases hme : (ms.getD e 0).testBit i = true
      · have hel : selA listed e = false := by
          cases hx : selA listed e with
          | false => rfl
          | true =>
            have := draw_maskL hM hen hx hinv i hme
            have h3 : selA listed i = true := this
            rw [hsi] at h3
            cases h3
        rw [hel] at hs ⊢
        obtain ⟨o, r, h1, h2, h3, h4, h5⟩ := (hall i hi).1 hme
        exact draw_core hds2 hnl hR hds hdst hG hN hi h1 h2 hr hinv (draw_ent (by rw [hrl, hdl]) hds hR hmi h4) h5 hs
      · obtain ⟨o, r, h1, h2, h3, h4, h5, h6⟩ := (hall i hi).2 (by simpa using hme) hie
        cases hel : selA listed e with
        | false =>
          rw [hel] at hs
          exact draw_core hds2 hnl hR hds hdst hG hN hi h1 h2 hr hinv (entX hds hR hmi h5) h6 hs
        | true =>
          rw [hel] at hs
          exact drawX_step hds2 hnl hrl hds hdst hG hN hi h1 h2 h3 hie hde hr hinv (entXA hds hR hmi h5 hde (hfr i hi) hnx) (scrubA_id (by rw [og_stX, if_pos rfl]) h4) h6 hs
theorem draw_sound (hT : TysOk C.P C.tys) (hm : C.P.follows .mixedOrders = true) {l : List Oper} {K : St → Prop} (h : DrawOb C N l st K) (hG : F.G = C.G) (hN : F.nt = N.nt) {Q : Exit → Act → World → Prop}
    (hQ : ∀ st' a' w', K st' → Sat F st' a' w' → Q .normal a' w') (hs : Sat F st a w) (id : Nat) : (Code.region id l.toArray true).wp C.P Q a w := by
  rcases h.w with h | h | h | h
  · exact store_sound hT hm h hG hN hQ hs id
  · exact appd_sound hT hm h hG hN hQ hs id
  · obtain ⟨n, hB, hv⟩ := h.w
    simp only [Bool.and_eq_true] at hB
    obtain ⟨⟨hB, hst⟩, hgd⟩ := hB
    unfold Region.factsB at hB
    simp only [Bool.and_eq_true, decide_eq_true_eq] at hB
    obtain ⟨⟨⟨⟨hn, hs1⟩, hc⟩, hbk⟩, hseq⟩ := hB
    rcases hv with hv | hv
    · refine wp_region_any hm (wpAny_split hn hs1 hc hbk hgd (store_any hT hv hG hN (fun st' a' w' hk hs' => ?_) hs))
      exact seq_size hseq (vcSeq_sound hT hG hN hst hk hQ hs')
    · refine wp_region_any hm (wpAny_split hn hs1 hc hbk hgd (store_anyZ hT hv hG hN (fun st' a' w' hk hs' => ?_) hs))
      exact seq_size hseq (vcSeq_sound hT hG hN hst hk hQ hs')
  obtain ⟨n, ms, hB, hdst, hv⟩ := h
  unfold drawB at hB
  simp only [Bool.and_eq_true] at hB
  obtain ⟨⟨⟨hB, hM⟩, hds⟩, hst⟩ := hB
  have hnl : n ≤ l.length := by
    cases hb : Nat.beq n l.length with
    | true => exact Nat.le_of_eq (Nat.eq_of_beq_eq_true hb)
    | false =>
      rw [hb] at hB
      unfold Region.factsB at hB
      simp only [Bool.and_eq_true, decide_eq_true_eq] at hB
      omega
  have htl : (l.take n).length = n := by rw [List.length_take]; omega
  have hlow : ∀ i j, i < n → (ms.getD i 0).testBit j = true → j < i := fun i j hi hj => by
    obtain ⟨_, _, h1, _⟩ := masksOk_at hM hi
    exact h1 j hj
  have hops : ∀ (j : Nat) (o : Oper), (l.take n)[j]? = some o → l[0 + j]? = some o := fun j o ho => by
    rw [Nat.zero_add]
    rw [List.getElem?_take] at ho
    split at ho
    · exact ho
    · cases ho
  obtain ⟨rs, hK, hrl, hok⟩ : ∃ rs' : List Res, vcSeq C N l (l.drop n) (stH st ((l.take n).map (·.dst)) rs' (fun _ => true) (st.nx + n)) K ∧ rs'.length = n ∧ ∀ q, q < n → HeadOk C l ((l.take n).map (·.dst)) ms st rs' q := by
    rcases hv with hv | ⟨hf, hv⟩
    · exact vcHead_sound hT (n := n) (l := l.take n) (i := 0) hlow (by rw [htl, Nat.zero_add]) hops rfl hv (fun q hq => by omega)
    · refine vcFast_sound hT (n := n) (l := l.take n) (i := 0) (rs := []) hds (by rw [List.length_map, htl]) (fun j d hj => ?_) hf hlow (by rw [htl, Nat.zero_add]) hops rfl hv ⟨fun _ h => (by cases h), fun _ _ _ _ h => (by simp at h), fun _ _ => rfl, ?_⟩ (fun q hq => by omega)
      · rw [List.getElem?_map] at hj
        cases ho : (l.take n)[j]? with
        | none => rw [ho] at hj; cases hj
        | some o =>
          rw [ho] at hj
          have := hops j o ho
          rw [Nat.zero_add] at this
          exact ⟨o, this, by simpa using hj⟩
      · cases (l.take n).map (·.dst) with
        | nil => rfl
        | cons x l => cases x <;> rfl
  obtain ⟨ρ, hs⟩ := hs
  have h0 : Sat F (stH st ((l.take n).map (·.dst)) rs (selA (Array.replicate l.toArray.size false)) (st.nx + n)) a w.drew :=
    ⟨ρ, stH_none st hds rs (fun j => getD_replicate_false _ _) _ hs.drew⟩
  have hsz : l.toArray.size = l.length := by simp
  refine wp_region_any hm ?_
  have hinv : HeadInv .any l.toArray n (Array.replicate l.toArray.size false) := ⟨by simp, fun j oj _ hl => (by rw [getD_replicate_false] at hl; cases hl), fun t _ ht => getD_in (by simpa using ht) (getD_replicate_false _ _)⟩
  have hcnt : ∀ m, m ≤ l.length → (List.range m).countP (fun i => !(Array.replicate l.toArray.size false).getD i true) = m := fun m hm => by
    rw [List.countP_eq_length.2 fun i hi => ?_, List.length_range]
    have : i < l.toArray.size := by have := List.mem_range.1 hi; omega
    rw [getD_in (by simpa using this) (getD_replicate_false _ _)]
    rfl
  cases hb : Nat.beq n l.length with
  | true =>
    rw [hb] at hB
    obtain rfl := Nat.eq_of_beq_eq_true hb
    have key := wpAny_inv_all (P := C.P) (Q := Q) (md := .any) (ops := l.toArray) hB (fun listed a w => Sat F (stH st ((l.take l.length).map (·.dst)) rs (selA listed) (st.nx + l.length)) a w)
      (fun listed i a w hi hr hinv hs => draw_step (n := l.length) rfl hnl hok hrl hM hds hdst hG hN hi hr hinv hs)
      (fun listed a w hall hs => by
        rw [List.drop_length] at hK
        refine hQ _ a w hK ?_
        have := stH_sel (rs := rs) (sel := selA listed) (sel' := fun _ => true) (fun k hk => hall k (by rw [hsz]; omega)) st ((l.take l.length).map (·.dst)) (st.nx + l.length)
        rw [← this]
        exact hs) l.length (Array.replicate l.toArray.size false) a w.drew hinv h0 (hcnt _ (Nat.le_refl _))
    exact key
  | false =>
    rw [hb] at hB
    unfold Region.factsB at hB
    simp only [Bool.and_eq_true, decide_eq_true_eq] at hB
    obtain ⟨⟨⟨⟨hn, hs1⟩, hc⟩, hbk⟩, hseq⟩ := hB
    have key := wpAny_inv_tail (P := C.P) (Q := Q) (md := .any) (n := n) (g := l.length - n) (by rw [hsz]; omega) (by omega) hs1 hc hbk (fun listed a w => Sat F (stH st ((l.take n).map (·.dst)) rs (selA listed) (st.nx + n)) a w)
      (fun listed i a w hi hr hinv hs => draw_step (n := n) rfl hnl hok hrl hM hds hdst hG hN hi hr hinv hs)
      (fun a w hs => seq_size hseq (vcSeq_sound hT hG hN hst hK hQ (by
        have := stH_sel (rs := rs) (sel := selA (headDone n l.toArray.size)) (sel' := fun _ => true) (fun k hk => by
          unfold selA headDone
          rw [Array.getD_eq_getD_getElem?, Array.getElem?_append_left (by simp; omega)]
          simp [show k < n by omega]) st ((l.take n).map (·.dst)) (st.nx + n)
        rw [← this]
        exact hs))) n (Array.replicate l.toArray.size false) a w.drew hinv h0 (hcnt _ hnl)
    rw [show n + (l.length - n) = l.toArray.size by rw [hsz]; omega] at key
    exact key
end
end Go.VG

/- States in letters: the blocks' numbers are told anew; what is needed of a call. -/
namespace Go.VG
open Go Go.RowKit

def renL (σ : Nat → Nat) : Leaf → Leaf
  | .loc b o => .loc (σ b) o
  | .row b => .row (σ b)
  | .rl b k i j => .rl (σ b) k i j
  | .rs b k l m V => .rs (σ b) k l m V
  | .fn f bs => .fn f (bs.map σ)
  | l => l
def renV1 (σ : Nat → Nat) : V1 → V1
  | .c l => .c (renL σ l)
  | .agg ls => .agg (ls.map (renL σ))
def renAV (σ : Nat → Nat) : AV → AV
  | .any => .any
  | .v a => .v (renV1 σ a)
  | .tup ts => .tup (ts.map (renV1 σ))
def renBlk (σ : Nat → Nat) : Blk → Blk
  | .st ls => .st (ls.map (renL σ))
  | k => k
def renSt (σ : Nat → Nat) (st : St) : St :=
  { tm := st.tm.map fun p => (p.1, renAV σ p.2), own := st.own.map fun p => (σ p.1, renBlk σ p.2), nx := st.nx }
def swp (b c i : Nat) : Nat := bif Nat.beq i b then c else bif Nat.beq i c then b else i
theorem swp_swp (b c i : Nat) : swp b c (swp b c i) = i := by
  have e : ∀ i, swp b c i = if i = b then c else if i = c then b else i := fun i => by
    unfold swp
    by_cases h : i = b
    · rw [nbeq_t h, if_pos h]; rfl
    · rw [nbeq_f h, if_neg h]
      by_cases h2 : i = c
      · rw [nbeq_t h2, if_pos h2]; rfl
      · rw [nbeq_f h2, if_neg h2]; rfl
  rw [e, e]
  split
  · next h => split <;> (try split) <;> omega
  · split <;> (try split) <;> (try split) <;> omega
section
variable {σ : Nat → Nat} {F : Fix} {ρ : Nat → Value} {st : St} {a : Act} {w : World}
theorem renL_at {l : Leaf} {w : World} {v : Value} (h : l.at (fun i => ρ (σ i)) w v) : (renL σ l).at ρ w v := by
  cases l with
  | fn f bs =>
    show v = _
    rw [List.map_map]
    exact h
  | _ => exact h
theorem cells_ren {w : World} : ∀ {ls : List Leaf} {us : List Value}, CellsR (Leaf.at (fun i => ρ (σ i)) w) ls us → CellsR (Leaf.at ρ w) (ls.map (renL σ)) us
  | [], [], _ => trivial
  | _ :: _, _ :: _, ⟨⟨h1, h2⟩, h3⟩ => ⟨⟨h1, renL_at h2⟩, cells_ren h3⟩
  | [], _ :: _, h => h.elim
  | _ :: _, [], h => h.elim
theorem renV1_at {x : V1} {w : World} {v : Value} (h : x.at (fun i => ρ (σ i)) w v) : (renV1 σ x).at ρ w v := by
  cases x with
  | c l => exact ⟨h.1, renL_at h.2⟩
  | agg ls => obtain ⟨cs, e, hc⟩ := h; exact ⟨cs, e, cells_ren hc⟩
theorem tup_ren {w : World} : ∀ {ls : List V1} {us : List Value}, TupR (V1.at (fun i => ρ (σ i)) w) ls us → TupR (V1.at ρ w) (ls.map (renV1 σ)) us
  | [], [], _ => trivial
  | _ :: _, _ :: _, ⟨h1, h3⟩ => ⟨renV1_at h1, tup_ren h3⟩
  | [], _ :: _, h => h.elim
  | _ :: _, [], h => h.elim
theorem renAV_at {x : AV} {w : World} {v : Value} (h : x.at (fun i => ρ (σ i)) w v) : (renAV σ x).at ρ w v := by
  cases x with
  | any => trivial
  | v x => exact renV1_at h
  | tup ts => obtain ⟨vs, e, hv⟩ := h; exact ⟨vs, e, tup_ren hv⟩
theorem og_ren (hσ : ∀ i, σ (σ i) = i) (f : Blk → Blk) : ∀ (own : List (Nat × Blk)) (b : Nat), og (own.map fun p => (σ p.1, f p.2)) b = (og own (σ b)).map f
  | [], b => rfl
  | (k, x) :: l, b => by
    rw [List.map_cons, og_cons, og_cons, og_ren hσ f l b]
    by_cases h : σ k = b
    · rw [if_pos h, if_pos (by rw [← h, hσ])]; rfl
    · rw [if_neg h, if_neg (fun x => h (by rw [x, hσ]))]
theorem SatE.ren (hσ : ∀ i, σ (σ i) = i) (hs : SatE F ρ st a w) : SatE F (fun i => ρ (σ i)) (renSt σ st) a w := by
  have hog : ∀ b, og (renSt σ st).own b = (og st.own (σ b)).map (renBlk σ) := og_ren hσ (renBlk σ) st.own
  have hdom : ∀ {b}, (og (renSt σ st).own b).isSome = true → (og st.own (σ b)).isSome = true := fun {b} h => by rw [hog] at h; simpa using h
  have hdom' : ∀ {b}, (og st.own b).isSome = true → (og (renSt σ st).own (σ b)).isSome = true := fun {b} h => by rw [hog, hσ]; simpa using h
  have hagr : ∀ {ρ'}, Agr (renSt σ st).own (fun i => ρ (σ i)) ρ' → Agr st.own ρ (fun i => ρ' (σ i)) := fun ha b hb => by
    have := ha (σ b) (hdom' hb)
    simp only [hσ] at this
    exact this
  have hM : ∀ {w'}, Ext (Mt F (fun i => ρ (σ i)) (renSt σ st).own) w w' → Ext (Mt F ρ st.own) w w' := fun hx => hx.mono fun i _ hm => by
    rcases hm with ho | ⟨c, hc, hk⟩
    · exact .inl ho
    · exact .inr ⟨σ c, hdom hc, hk⟩
  refine ⟨hs.dfr, hs.nt, fun t ρ' w' k1 k2 => ?_, fun b k hk => ?_, fun b b' k h1 h2 q1 q2 => ?_, fun b k h1 q => hs.base (σ b) k (hdom h1) q, fun b k h1 q => hs.dis (σ b) k (hdom h1) q, hs.below, fun ρ' w' k1 k2 => hs.gl ρ w' (Agr.refl _ _) (hM k2), hs.oo⟩
  · rw [show (renSt σ st).tm = st.tm.map fun p => (p.1, renAV σ p.2) from rfl, gt_map _ rfl]
    exact renAV_at (hs.tm t _ w' (hagr k1) (hM k2))
  · rw [hog] at hk
    cases hb : og st.own (σ b) with
    | none => rw [hb] at hk; cases hk
    | some k0 =>
      rw [hb] at hk
      cases hk
      have hA := hs.own (σ b) k0 hb
      cases k0 with
      | st ls =>
        obtain ⟨g, cs, ee, q1, q2, q3, q4⟩ := hA
        exact ⟨g, cs, ee, q1, q2, CellsR.unrob fun ρ' w' k1 k2 => cells_ren (q3.rob _ w' (hagr k1) (hM k2)), q4⟩
      | rw kk ee u α mk Z n =>
        refine hA.mono' fun i j x hi hj pp hr ρ' w' k1 k2 => pureL_at pp (hr ρ w' (Agr.refl _ _) (hM k2))
  · have := hs.inj (σ b) (σ b') k (hdom h1) (hdom h2) q1 q2
    rw [← hσ b, this, hσ]
def nilSt (t b k : Nat) (e : TypeId) (st : St) : St :=
  match gt st.tm t with
  | .v (.c (.x (.slice none 0 0))) => match og st.own b with
    | none => { tm := (t, .v (.c (.row b))) :: st.tm, own := (b, .rw k e false Unit (fun _ _ => .any) (fun _ => ()) 0) :: st.own, nx := st.nx }
    | some _ => st
  | _ => st
def nilCell (v i b k : Nat) (e : TypeId) (st : St) : St :=
  match og st.own v with
  | some (.st ls) => match ls[i]?, og st.own b with
    | some (.x (.slice none 0 0)), none => { tm := st.tm, own := (b, .rw k e false Unit (fun _ _ => .any) (fun _ => ()) 0) :: oset st.own v (.st (ls.set i (.row b))), nx := st.nx }
    | _, _ => st
  | _ => st
def renT (t b : Nat) (st : St) : St :=
  match gt st.tm t with
  | .v (.c (.row c)) => renSt (swp b c) st
  | .v (.c (.loc c _)) => renSt (swp b c) st
  | _ => st
def renC (v i b : Nat) (st : St) : St :=
  match og st.own v with
  | some (.st ls) => match ls[i]? with
    | some (.row c) => renSt (swp b c) st
    | some (.loc c _) => renSt (swp b c) st
    | _ => st
  | _ => st
inductive Rn
  | r (t b : Nat)
  | c (v i b : Nat)
  | s (b c : Nat)
  | n (t b k : Nat) (e : TypeId)
  | m (v i b k : Nat) (e : TypeId)
def rens : List Rn → St → St
  | [], st => st
  | .s b c :: l, st => rens l (renSt (swp b c) st)
  | .n t b k e :: l, st => rens l (nilSt t b k e st)
  | .m v i b k e :: l, st => rens l (nilCell v i b k e st)
  | .r t b :: l, st => rens l (renT t b st)
  | .c v i b :: l, st => rens l (renC v i b st)
theorem sat_nilSt {t b k : Nat} {e : TypeId} (h : Sat F st a w) : Sat F (nilSt t b k e st) a w := by
  unfold nilSt
  split
  · next hx =>
    split
    · next hb =>
      obtain ⟨ρ, hs⟩ := h
      have hbn : ∀ c, (og st.own c).isSome = true → c ≠ b := fun c hc hcb => by rw [hcb, hb] at hc; cases hc
      let ρ1 : Nat → Value := fun i => if i = b then .slice none 0 0 else ρ i
      have e1 : ∀ c, c ≠ b → ρ1 c = ρ c := fun c hc => if_neg hc
      have e0 : ρ1 b = .slice none 0 0 := if_pos rfl
      have hog : ∀ c, c ≠ b → og ((b, Blk.rw k e false Unit (fun _ _ => .any) (fun _ => ()) 0) :: st.own) c = og st.own c := fun c hc => by rw [og_cons, if_neg (fun x => hc x.symm)]
      have hagr : ∀ {ρ'}, Agr ((b, Blk.rw k e false Unit (fun _ _ => .any) (fun _ => ()) 0) :: st.own) ρ1 ρ' → Agr st.own ρ ρ' := fun ha c hc => by
        have hne := hbn c hc
        rw [ha c (by rw [hog c hne]; exact hc), e1 c hne]
      have hM : ∀ {w'}, Ext (Mt F ρ1 ((b, Blk.rw k e false Unit (fun _ _ => .any) (fun _ => ()) 0) :: st.own)) w w' → Ext (Mt F ρ st.own) w w' := fun hx => hx.mono fun i _ hm => by
        rcases hm with ho | ⟨c, hc, hk⟩
        · exact .inl ho
        · by_cases hcb : c = b
          · rw [hcb, e0] at hk; cases hk
          · rw [hog c hcb] at hc
            rw [e1 c hcb] at hk
            exact .inr ⟨c, hc, hk⟩
      have hnb : ∀ {c i : Nat}, (og ((b, Blk.rw k e false Unit (fun _ _ => .any) (fun _ => ()) 0) :: st.own) c).isSome = true → vblk (ρ1 c) = some i → (og st.own c).isSome = true ∧ vblk (ρ c) = some i := fun {c i} hc hk => by
        by_cases hcb : c = b
        · rw [hcb, e0] at hk; cases hk
        · rw [hog c hcb] at hc
          rw [e1 c hcb] at hk
          exact ⟨hc, hk⟩
      refine ⟨ρ1, hs.dfr, hs.nt, fun q ρ' w' k1 k2 => ?_, fun c kc hc => ?_, fun c c' i h1 h2 q1 q2 => ?_, fun c i h1 q => ?_, fun c i h1 q => ?_, hs.below, fun ρ' w' k1 k2 => hs.gl ρ w' (Agr.refl _ _) (hM k2), hs.oo⟩
      · show (gt ((t, AV.v (.c (.row b))) :: st.tm) q).at ρ' w' _
        rw [gt_cons]
        split
        · next eq =>
          subst eq
          have := hs.tm t ρ w (Agr.refl _ _) (Ext.refl _ _)
          rw [hx] at this
          have hv : a.tmps.getD t undef = .slice none 0 0 := this.2
          rw [hv]
          have hr : ρ' b = .slice none 0 0 := (k1 b (by rw [og_cons, if_pos rfl]; rfl)).trans e0
          exact ⟨rfl, rfl, hr.symm⟩
        · exact hs.tm q ρ' w' (hagr k1) (hM k2)
      · by_cases hcb : c = b
        · subst hcb
          rw [og_cons, if_pos rfl] at hc
          cases hc
          exact .inl ⟨e0, rfl⟩
        · rw [hog c hcb] at hc
          have hA := hs.own c kc hc
          rw [← e1 c hcb] at hA
          exact hA.mono (fun _ _ => rfl) fun l u hr ρ' w' k1 k2 => hr ρ' w' (hagr k1) (hM k2)
      · obtain ⟨a1, a2⟩ := hnb h1 q1
        obtain ⟨b1, b2⟩ := hnb h2 q2
        exact hs.inj c c' i a1 b1 a2 b2
      · obtain ⟨a1, a2⟩ := hnb h1 q
        exact hs.base c i a1 a2
      · obtain ⟨a1, a2⟩ := hnb h1 q
        exact hs.dis c i a1 a2
    · exact h
  · exact h
theorem sat_nilCell {v0 i0 b k : Nat} {e : TypeId} (h : Sat F st a w) : Sat F (nilCell v0 i0 b k e st) a w := by
  unfold nilCell
  split
  · next ls hv =>
    split
    · next hx hb =>
      obtain ⟨ρ, hs⟩ := h
      have hbn : ∀ c, (og st.own c).isSome = true → c ≠ b := fun c hc hcb => by rw [hcb, hb] at hc; cases hc
      let ρ1 : Nat → Value := fun i => if i = b then .slice none 0 0 else ρ i
      have e1 : ∀ c, c ≠ b → ρ1 c = ρ c := fun c hc => if_neg hc
      have e0 : ρ1 b = .slice none 0 0 := if_pos rfl
      have hog : ∀ c, c ≠ b → (og ((b, Blk.rw k e false Unit (fun _ _ => .any) (fun _ => ()) 0) :: oset st.own v0 (.st (ls.set i0 (.row b)))) c).isSome = (og st.own c).isSome := fun c hc => by rw [og_cons, if_neg (fun x => hc x.symm), some_oset]
      have hagr : ∀ {ρ'}, Agr ((b, Blk.rw k e false Unit (fun _ _ => .any) (fun _ => ()) 0) :: oset st.own v0 (.st (ls.set i0 (.row b)))) ρ1 ρ' → Agr st.own ρ ρ' := fun ha c hc => by
        have hne := hbn c hc
        rw [ha c (by rw [hog c hne]; exact hc), e1 c hne]
      have hM : ∀ {w'}, Ext (Mt F ρ1 ((b, Blk.rw k e false Unit (fun _ _ => .any) (fun _ => ()) 0) :: oset st.own v0 (.st (ls.set i0 (.row b))))) w w' → Ext (Mt F ρ st.own) w w' := fun hx => hx.mono fun i _ hm => by
        rcases hm with ho | ⟨c, hc, hk⟩
        · exact .inl ho
        · by_cases hcb : c = b
          · rw [hcb, e0] at hk; cases hk
          · rw [hog c hcb] at hc
            rw [e1 c hcb] at hk
            exact .inr ⟨c, hc, hk⟩
      have hnb : ∀ {c i : Nat}, (og ((b, Blk.rw k e false Unit (fun _ _ => .any) (fun _ => ()) 0) :: oset st.own v0 (.st (ls.set i0 (.row b)))) c).isSome = true → vblk (ρ1 c) = some i → (og st.own c).isSome = true ∧ vblk (ρ c) = some i := fun {c i} hc hk => by
        by_cases hcb : c = b
        · rw [hcb, e0] at hk; cases hk
        · rw [hog c hcb] at hc
          rw [e1 c hcb] at hk
          exact ⟨hc, hk⟩
      refine ⟨ρ1, hs.dfr, hs.nt, fun q ρ' w' k1 k2 => hs.tm q ρ' w' (hagr k1) (hM k2), fun c kc hc => ?_, fun c c' i h1 h2 q1 q2 => ?_, fun c i h1 q => ?_, fun c i h1 q => ?_, hs.below, fun ρ' w' k1 k2 => hs.gl ρ w' (Agr.refl _ _) (hM k2), hs.oo⟩
      · by_cases hcb : c = b
        · subst hcb
          rw [og_cons, if_pos rfl] at hc
          cases hc
          exact .inl ⟨e0, rfl⟩
        · rw [og_cons, if_neg (fun x => hcb x.symm), og_oset] at hc
          by_cases hcv : c = v0
          · subst hcv
            rw [if_pos rfl, hv] at hc
            cases hc
            have hA := hs.own c _ hv
            rw [← e1 c hcb] at hA
            obtain ⟨g, cs, ee, q1, q2, q3, q4⟩ := hA
            refine ⟨g, cs, ee, q1, q2, CellsR.of (by rw [List.length_set]; exact q3.len) fun i l u hl hu => ?_, q4⟩
            obtain ⟨l0, m1, m2, m3⟩ := q3.get hu
            refine ⟨m2, fun ρ' w' k1 k2 => ?_⟩
            have m3' := m3 ρ' w' (hagr k1) (hM k2)
            rw [List.getElem?_set] at hl
            by_cases hi : i0 = i
            · subst hi
              rw [if_pos rfl] at hl
              split at hl
              · cases hl
                rw [hx] at m1
                cases m1
                have hu' : u = .slice none 0 0 := m3'
                have hr : ρ' b = .slice none 0 0 := (k1 b (by rw [og_cons, if_pos rfl]; rfl)).trans e0
                rw [hu']
                exact ⟨rfl, hr.symm⟩
              · cases hl
            · rw [if_neg hi] at hl
              rw [m1] at hl
              cases hl
              exact m3'
          · rw [if_neg hcv] at hc
            have hA := hs.own c kc hc
            rw [← e1 c hcb] at hA
            exact hA.mono (fun _ _ => rfl) fun l u hr ρ' w' k1 k2 => hr ρ' w' (hagr k1) (hM k2)
      · obtain ⟨a1, a2⟩ := hnb h1 q1
        obtain ⟨b1, b2⟩ := hnb h2 q2
        exact hs.inj c c' i a1 b1 a2 b2
      · obtain ⟨a1, a2⟩ := hnb h1 q
        exact hs.base c i a1 a2
      · obtain ⟨a1, a2⟩ := hnb h1 q
        exact hs.dis c i a1 a2
    · exact h
  · exact h
theorem sat_renT {t b : Nat} (h : Sat F st a w) : Sat F (renT t b st) a w := by
  unfold renT
  obtain ⟨_, h⟩ := h
  split
  · exact ⟨_, h.ren (swp_swp b _)⟩
  · exact ⟨_, h.ren (swp_swp b _)⟩
  · exact ⟨_, h⟩
theorem sat_renC {v i b : Nat} (h : Sat F st a w) : Sat F (renC v i b st) a w := by
  unfold renC
  obtain ⟨_, h⟩ := h
  split
  · split
    · exact ⟨_, h.ren (swp_swp b _)⟩
    · exact ⟨_, h.ren (swp_swp b _)⟩
    · exact ⟨_, h⟩
  · exact ⟨_, h⟩
theorem sat_rens : ∀ {l : List Rn} {st : St}, Sat F st a w → Sat F (rens l st) a w
  | [], _, h => h
  | .s b c :: l, _, ⟨_, h⟩ => sat_rens (l := l) ⟨_, h.ren (swp_swp b c)⟩
  | .n _ _ _ _ :: l, _, h => sat_rens (l := l) (sat_nilSt h)
  | .r t b :: l, _, h => sat_rens (l := l) (sat_renT (t := t) (b := b) h)
  | .c v i b :: l, _, h => sat_rens (l := l) (sat_renC (v := v) (i := i) (b := b) h)
  | .m v i b k e :: l, _, h => sat_rens (l := l) (sat_nilCell (v0 := v) (i0 := i) (b := b) (k := k) (e := e) h)
theorem BlkLe.zero {k : Nat} {e : TypeId} {u : Bool} {α β : Type} {mk : α → Nat → Leaf} {mk' : β → Nat → Leaf} {Z : Nat → α} {Z' : Nat → β} : BlkLe (.rw k e u α mk Z 0) (.rw k e u β mk' Z' 0) := .rw (fun _ _ h => absurd h (Nat.not_lt_zero _)) (fun _ _ h => absurd h (Nat.not_lt_zero _))
theorem SatE.mt_nou (hs : SatE F ρ st a w) {k : Nat} (hm : Mt F ρ st.own k) : k < w.heap.size ∧ ∀ c e f, w.heap[k]? = some (.cells c e f) → NoU c.toList := by
  refine ⟨hs.mt_lt hm, fun cc ee f hc => ?_⟩
  rcases hm with ho | ⟨b, h1, h2⟩
  · exact (hs.oo k ho).2 cc ee f hc
  · obtain ⟨kc, hkc⟩ := Option.isSome_iff_exists.1 h1
    have hA := hs.own b kc hkc
    cases kc with
    | st ls =>
      obtain ⟨g, c', e', q1, q2, q3, q4⟩ := hA
      rw [q1] at h2
      cases h2
      rw [q2] at hc
      cases hc
      exact q4
    | rw kk ee u α mk Z n =>
      rcases hA with ⟨q1, _⟩ | ⟨g, cap, c', q1, q2, q3, q4, q5, q6, q7⟩
      · rw [q1] at h2; cases h2
      · rw [q1] at h2
        cases h2
        rw [q2] at hc
        cases hc
        exact q6
end

structure Sp (C : Ctx) (f : FuncId) (args : List AV) (r : AV) : Prop where
  ok : CallOk C.P f
  cl : avB [] r = true
  w : ∀ (O : Nat → Prop) (w : World) (vs : List Value), (∀ k, O k → k < w.heap.size ∧ ∀ c e f, w.heap[k]? = some (.cells c e f) → NoU c.toList) → (∀ w', Ext O w w' → C.G w') → (∀ ρ' w', Ext O w w' → ArgsR (AV.at ρ' w') args vs) →
    Calls C.P f vs.toArray w fun e w' => ∃ v, e = .returned v ∧ Below w.heap.size w w' ∧ ∀ ρ' w'', Ext O w' w'' → r.at ρ' w'' v
inductive ArgsLe : List AV → List AV → Prop
  | nil : ArgsLe [] []
  | cons {a b l m} : AvLe a b → ArgsLe l m → ArgsLe (a :: l) (b :: m)
theorem ArgsLe.refl : ∀ l : List AV, ArgsLe l l
  | [] => .nil
  | a :: l => .cons (.refl a) (ArgsLe.refl l)
theorem ArgsLe.args {ρ : Nat → Value} {w : World} : ∀ {l m : List AV} {vs : List Value}, ArgsLe l m → ArgsR (AV.at ρ w) l vs → ArgsR (AV.at ρ w) m vs
  | _, _, [], .nil, h => h
  | _, _, _ :: _, .cons h1 h2, ⟨k1, k2⟩ => ⟨h1.h ρ w _ k1, h2.args k2⟩
  | _, _, _ :: _, .nil, h => h.elim
  | _, _, [], .cons _ _, h => h.elim
theorem argsB_at {ρ ρ' : Nat → Value} {w : World} : ∀ {l : List AV} {vs : List Value}, l.all (avB []) = true → ArgsR (AV.at ρ w) l vs → ArgsR (AV.at ρ' w) l vs
  | [], [], _, _ => trivial
  | _ :: _, _ :: _, hb, ⟨k1, k2⟩ => by
    rw [List.all_cons, Bool.and_eq_true] at hb
    exact ⟨avB_at (own := []) (fun _ h => by cases h) hb.1 k1, argsB_at hb.2 k2⟩
  | [], _ :: _, _, h => h.elim
  | _ :: _, [], _, h => h.elim
theorem Sp.call {C : Ctx} {st : St} {f : FuncId} {args args' : List AV} {r r' : AV} {K : Res → Prop} (h : Sp C f args' r) (ha : ArgsLe args args') (hcl : args'.all (avB []) = true) (hr : AvLe r r') (hk : K ⟨r', none⟩) : CallP C st f args K :=
  ⟨h.ok, ⟨r', none⟩, hk, fun F ρ _ w vs hG hs hargs => (h.w (Mt F ρ st.own) w vs (fun _ hm => hs.mt_nou hm) (fun w' hx => hG ▸ hs.gl ρ w' (Agr.refl _ _) hx) (fun _ w' hx => argsB_at hcl (ha.args (hargs ρ w' (Agr.refl _ _) hx)))).mono
    fun _ _ ⟨v, he, hb, hv⟩ => ⟨v, he, hb, fun ρ' w'' _ hx => hr.h ρ' w'' _ (hv ρ' w'' hx)⟩⟩
structure SpR (C : Ctx) (f : FuncId) (args : List AV) (k : Nat) (e : TypeId) (α : Type) (mk : α → Nat → Leaf) (Z : Nat → α) (n : Nat) : Prop where
  ok : CallOk C.P f
  w : ∀ (O : Nat → Prop) (w : World) (vs : List Value), (∀ k, O k → k < w.heap.size ∧ ∀ c e f, w.heap[k]? = some (.cells c e f) → NoU c.toList) → (∀ w', Ext O w w' → C.G w') → (∀ ρ' w', Ext O w w' → ArgsR (AV.at ρ' w') args vs) →
    Calls C.P f vs.toArray w fun en w' => ∃ v, en = .returned v ∧ Below w.heap.size w w' ∧ ((v = .slice none 0 0 ∧ n = 0) ∨ ∃ g cap c, v = .slice (some ⟨g, 0, none⟩) n cap ∧ w.heap.size ≤ g ∧ w'.heap[g]? = some (.cells c e (0, 0)) ∧ n ≤ cap ∧ cap ≤ maxLen ∧ c.size = cap * k ∧ NoU c.toList ∧
      ∀ i j, i < n → j < k → pureL (mk (Z i) j) = true ∧ ∃ x, c[i * k + j]? = some x ∧ x.oneCell' = true ∧ ∀ ρ' w'', Ext (fun q => O q ∨ q = g) w' w'' → (mk (Z i) j).at ρ' w'' x)
theorem SpR.call {C : Ctx} {st : St} {f : FuncId} {args args' : List AV} {k : Nat} {e : TypeId} {α : Type} {mk : α → Nat → Leaf} {Z : Nat → α} {n : Nat} {K : Res → Prop} (h : SpR C f args' k e α mk Z n) (ha : ArgsLe args args') (hcl : args'.all (avB []) = true) (hn : (og st.own st.nx).isNone = true)
    (hk : K ⟨.v (.c (.row st.nx)), some (st.nx, .rw k e false α mk Z n)⟩) : CallP C st f args K :=
  ⟨h.ok, _, hk, fun F ρ _ w vs hG hs hargs => (h.w (Mt F ρ st.own) w vs (fun _ hm => hs.mt_nou hm) (fun w' hx => hG ▸ hs.gl ρ w' (Agr.refl _ _) hx) (fun _ w' hx => argsB_at hcl (ha.args (hargs ρ w' (Agr.refl _ _) hx)))).mono
    fun _ w' ⟨v, he, hb, hv⟩ => by
      have hno : og st.own st.nx = none := by simpa using hn
      refine ⟨v, he, hb, hno, v, ?_, fun ρ' w'' k1 k2 => ?_, ?_⟩
      · rcases hv with ⟨rfl, _⟩ | ⟨g, cap, c, rfl, hg, _⟩
        · intro g hg; cases hg
        · intro g' hg'; cases hg'; exact hg
      · have hr : ρ' st.nx = v := (k1 st.nx (by rw [og_cons, if_pos rfl]; rfl)).trans (updρ_at _ _ _)
        rcases hv with ⟨rfl, _⟩ | ⟨g, cap, c, rfl, hg, _⟩
        · exact ⟨rfl, rfl, hr.symm⟩
        · exact ⟨rfl, rfl, hr.symm⟩
      · rcases hv with ⟨rfl, rfl⟩ | ⟨g, cap, c, rfl, hg, h1, h2, h3, h4, h5, h6⟩
        · exact .inl ⟨rfl, rfl⟩
        · refine .inr ⟨g, cap, c, rfl, h1, h2, h3, h4, h5, fun i j hi hj => ?_⟩
          obtain ⟨pp, x, x1, x2, x3⟩ := h6 i j hi hj
          exact ⟨pp, x, x1, x2, fun ρ' w'' _ hx => x3 ρ' w'' (hx.mono fun q _ hm => by
            rcases hm with ho | ⟨b', hs', hk'⟩
            · exact .inl (.inl ho)
            · rcases some_new hs' with rfl | ⟨hne, hs2⟩
              · rw [updρ_at] at hk'
                cases hk'
                exact .inr rfl
              · rw [updρ_ne _ _ hne] at hk'
                exact .inl (.inr ⟨b', hs2, hk'⟩))⟩⟩
theorem Sp.calls {C : Ctx} {f : FuncId} {args : List AV} {r : AV} {vs : List Value} {w : World} (h : Sp C f args r) (hw : ∀ w', Ext (fun _ => False) w w' → C.G w') (ha : ∀ ρ' w', Ext (fun _ => False) w w' → ArgsR (AV.at ρ' w') args vs) :
    Calls C.P f vs.toArray w fun e w' => ∃ v, e = .returned v ∧ Below w.heap.size w w' ∧ ∀ ρ', r.at ρ' w' v :=
  (h.w (fun _ => False) w vs (fun _ h => h.elim) hw ha).mono fun _ w' ⟨v, he, hb, hv⟩ => ⟨v, he, hb, fun ρ' => hv ρ' w' (Ext.refl _ _)⟩
def FnR (C : Ctx) (A : Int → Prop) (r : Int → AV) (w : World) (v : Value) : Prop :=
  ∃ g caps, v = .func (.func g) #[] caps ∧ CallOk C.P g ∧ ∀ a, A a → Calls C.P g (#[.int .i64 a] ++ caps) w fun e w' => ∃ u, e = .returned u ∧ Below w.heap.size w w' ∧ ∀ ρ w'', (r a).at ρ w'' u
structure PlainAv (a : AV) : Prop where
  h : ∀ (ρ ρ' : Nat → Value) (w w' : World) (v : Value), a.at ρ w v → a.at ρ' w' v
theorem FnR.mk {C : Ctx} {g : FuncId} {caps : List AV} {K : Res → Prop} (A : Int → Prop) (r : Int → AV) (hok : CallOk C.P g) (hA : ∀ a, A a → Sp C g (int .i64 a :: caps) (r a)) (hp : ∀ a, A a → PlainAv (r a)) (hk : K ⟨.v (.c (.p (FnR C A r))), none⟩) : MkFn C g caps K :=
  ⟨FnR C A r, fun vs w hG hargs => ⟨g, vs.toArray, rfl, hok, fun a ha => by
    have := (hA a ha).calls (vs := .int .i64 a :: vs) (w := w) hG fun ρ' w' hx => ⟨⟨rfl, rfl⟩, hargs ρ' w' hx⟩
    have e : (.int .i64 a :: vs : List Value).toArray = #[.int .i64 a] ++ vs.toArray := by simp
    rw [e] at this
    exact this.mono fun _ w' ⟨v, he, hb, hv⟩ => ⟨v, he, hb, fun ρ w'' => (hp a ha).h (fun _ => undef) ρ w' w'' v (hv _)⟩⟩, hk⟩
theorem FnR.call {C : Ctx} {st : St} {A : Int → Prop} {r : Int → AV} {a : Int} {K : Res → Prop} (ha : A a) (hk : K ⟨r a, none⟩) : CallV C st (FnR C A r) [int .i64 a] K :=
  ⟨_, hk, fun F ρ _ w vs v _ _ hargs hv => by
    obtain ⟨g, caps, e1, hok, hc⟩ := hv.now
    have ha' := hargs.now
    match vs, ha' with
    | [u], ⟨⟨_, hu⟩, _⟩ =>
      have hu : u = .int .i64 a := hu
      subst hu
      exact ⟨g, caps, e1, hok, (hc a ha).mono fun _ w' ⟨v, he, hb, hv⟩ => ⟨v, he, hb, fun ρ' w'' _ _ => hv ρ' w''⟩⟩⟩
theorem FnR.le {C : Ctx} {A A' : Int → Prop} {r r' : Int → AV} (hA : ∀ a, A' a → A a) (hr : ∀ a, A' a → r a = r' a) : AvLe (.v (.c (.p (FnR C A r)))) (.v (.c (.p (FnR C A' r')))) :=
  .leaf ⟨fun _ _ _ _ ⟨h0, g, caps, e, ok, h⟩ => ⟨h0, g, caps, e, ok, fun a ha => hr a ha ▸ h a (hA a ha)⟩⟩
theorem Sp.of_val {C : Ctx} {f : FuncId} {args : List AV} {r : AV} {vs0 : List Value} {v : Value} (hok : CallOk C.P f) (hc : avB [] r = true) (hargs : ∀ ρ w vs, ArgsR (AV.at ρ w) args vs → vs = vs0) (hv : ∀ ρ w, r.at ρ w v)
    (h : ∀ w, C.G w → Calls C.P f vs0.toArray w fun e w' => e = .returned v ∧ Below w.heap.size w w') : Sp C f args r :=
  ⟨hok, hc, fun O w vs _ h2 h3 => by
    rw [hargs (fun _ => undef) w vs (h3 _ w (Ext.refl _ _))]
    exact (h w (h2 w (Ext.refl _ _))).mono fun _ _ ⟨he, hb⟩ => ⟨v, he, hb, fun ρ' w'' _ => hv ρ' w''⟩⟩
end Go.VG

/- States in letters: code, loops, functions. -/
namespace Go.VG
open Go Go.RowKit

theorem tdivIn {x c : Int} (h1 : -9223372036854775807 ≤ x) (h2 : x ≤ 9223372036854775807) : InK .i64 (x.tdiv c) := by
  have h := Int.natAbs_tdiv x c
  have h3 := Nat.div_le_self x.natAbs c.natAbs
  change (x.tdiv c).natAbs = x.natAbs / c.natAbs at h
  generalize x.tdiv c = y at *
  generalize x.natAbs / c.natAbs = z at *
  show -9223372036854775808 ≤ y ∧ y ≤ 9223372036854775807
  omega
def drawN : List Oper → Nat
  | [] => 0
  | o :: l => match o.op with
    | .assign _ => 0
    | .store .. => 0
    | .call ⟨.builtin .append, _, _⟩ => 0
    | _ => drawN l + 1
theorem DrawOb.pre {C : Ctx} {N : Fnx} {ops : List Oper} {st : St} {K : St → Prop} (h : DrawOb C N ops st K) : DrawOb C N ops st K := h
theorem DrawOb.go {C : Ctx} {N : Fnx} {ops : List Oper} {st : St} {K : St → Prop} (n : Nat) (_ : Nat.ble (drawN ops) n = true) (h1 : drawB ops n (masks (ops.take n) []) = true) (h2 : ((ops.take n).all fun o => dstOk N.nt o.dst) = true)
    (h : vcHead C ops ((ops.take n).map (·.dst)) (masks (ops.take n) []) st 0 (ops.take n) [] fun rs => vcSeq C N ops (ops.drop n) (stH st ((ops.take n).map (·.dst)) rs (fun _ => true) (st.nx + n)) K) : DrawOb C N ops st K := ⟨.inr (.inr (.inr ⟨n, _, h1, h2, .inl h⟩))⟩
theorem DrawOb.fast {C : Ctx} {N : Fnx} {ops : List Oper} {st : St} {K : St → Prop} (n : Nat) (_ : Nat.ble (drawN ops) n = true) (h1 : (drawB ops n (masks (ops.take n) []) && fastOk ops n (masks (ops.take n) [])) = true) (h2 : ((ops.take n).all fun o => dstOk N.nt o.dst) = true)
    (h : vcFast C ops st 0 (ops.take n) [] fun st' => vcSeq C N ops (ops.drop n) st' K) : DrawOb C N ops st K := by
  rw [Bool.and_eq_true] at h1
  exact ⟨.inr (.inr (.inr ⟨n, _, h1.1, h2, .inr ⟨h1.2, h⟩⟩))⟩
def plainO (o : Oper) : Bool := match o.op with
  | .alloc _ => false
  | .box _ _ => false
  | .makeSlice _ _ _ => false
  | .buildSlice _ 0 _ => false
  | _ => true
structure TryF (C : Ctx) (N : Fnx) (ops : List Oper) (st : St) (K : St → Prop) (n : Nat) : Prop where
  w : DrawOb C N ops st K
structure TryA (C : Ctx) (N : Fnx) (ops : List Oper) (st : St) (K : St → Prop) (n : Nat) : Prop where
  w : DrawOb C N ops st K
structure TryG (C : Ctx) (N : Fnx) (ops : List Oper) (st : St) (K : St → Prop) (n : Nat) : Prop where
  w : DrawOb C N ops st K
structure TryT (C : Ctx) (N : Fnx) (ops : List Oper) (st : St) (K : St → Prop) (n : Nat) : Prop where
  w : DrawOb C N ops st K
structure TryS (C : Ctx) (N : Fnx) (ops : List Oper) (st : St) (K : St → Prop) (n : Nat) : Prop where
  w : DrawOb C N ops st K
section
variable {C : Ctx} {N : Fnx} {ops : List Oper} {st : St} {K : St → Prop} {n : Nat}
theorem DrawOb.start (h : TryF C N ops st K 1) : DrawOb C N ops st K := h.w
theorem TryF.fast (a : Nat.ble (drawN ops) n = true) (h1 : (drawB ops n (masks (ops.take n) []) && fastOk ops n (masks (ops.take n) []) && (ops.take n).all plainO) = true) (h2 : ((ops.take n).all fun o => dstOk N.nt o.dst) = true)
    (h : vcFast C ops st 0 (ops.take n) [] fun st' => vcSeq C N ops (ops.drop n) st' K) : TryF C N ops st K n := by
  rw [Bool.and_eq_true] at h1
  exact ⟨DrawOb.fast n a h1.1 h2 h⟩
theorem TryF.next (_ : Nat.blt n ops.length = true) (h : TryF C N ops st K (n + 1)) : TryF C N ops st K n := ⟨h.w⟩
theorem TryF.other (h : TryA C N ops st K (appAt ops + 1)) : TryF C N ops st K n := ⟨h.w⟩
theorem TryA.other (h : TryS C N ops st K 0) : TryA C N ops st K n := ⟨h.w⟩
theorem TryA.next (_ : Nat.blt (n + 1) ops.length = true) (h : TryA C N ops st K (n + 1)) : TryA C N ops st K n := ⟨h.w⟩
def apMatch (o : Option (Nat × Operand × Operand × TypeId)) (K : Nat → Operand → Operand → TypeId → Prop) : Prop := match o with
  | some (d, s, x, t) => K d s x t
  | none => False
theorem TryA.go (h1 : (drawAB ops n (appAt ops) (masks (ops.take n) []) && (appE ops (appAt ops)).isSome) = true) (h2 : ((ops.take n).all fun o => dstOk N.nt o.dst) = true)
    (h : apMatch (appE ops (appAt ops)) fun d s x t => vcAp C N ops (masks (ops.take n) []) st n (appAt ops) d s x t K) : TryA C N ops st K n := by
  rw [Bool.and_eq_true] at h1
  unfold apMatch at h
  split at h
  · next d s x t h3 => exact ⟨⟨.inr (.inl ⟨_, _, _, _, _, _, _, h1.1, h2, h3, h⟩)⟩⟩
  · exact h.elim
theorem TryG.go (a : Nat.ble (drawN ops) n = true) (h1 : drawB ops n (masks (ops.take n) []) = true) (h2 : ((ops.take n).all fun o => dstOk N.nt o.dst) = true)
    (h : vcHead C ops ((ops.take n).map (·.dst)) (masks (ops.take n) []) st 0 (ops.take n) [] fun rs => vcSeq C N ops (ops.drop n) (stH st ((ops.take n).map (·.dst)) rs (fun _ => true) (st.nx + n)) K) : TryG C N ops st K n := ⟨DrawOb.go n a h1 h2 h⟩
theorem TryG.next (_ : Nat.blt n ops.length = true) (h : TryG C N ops st K (n + 1)) : TryG C N ops st K n := ⟨h.w⟩
theorem TryG.other (h : TryT C N ops st K (drawN ops)) : TryG C N ops st K n := ⟨h.w⟩
theorem TryT.g (h : vcS C (ops.take (n + 1)) st n fun st' => vcSeq C N ops (ops.drop (n + 1)) st' K) (h1 : (Region.factsB ops (n + 1) && storesOk (ops.drop (n + 1)) && guardsIn (ops.take (n + 1)) (n + 1) && drawSB (ops.take (n + 1)) (masks (ops.take (n + 1)) []) n) = true := by decide +kernel)
    (h2 : ((ops.take (n + 1)).all fun o => dstOk N.nt o.dst) = true := by kernel_rfl) : TryT C N ops st K n := by
  rw [Bool.and_eq_true] at h1
  exact ⟨⟨.inr (.inr (.inl ⟨n + 1, h1.1, .inl ⟨n, _, h1.2, h2, h⟩⟩))⟩⟩
theorem TryT.z (h : vcZ C (ops.take (n + 2)) st (n + 1) n fun st' => vcSeq C N ops (ops.drop (n + 2)) st' K) (h1 : (Region.factsB ops (n + 2) && storesOk (ops.drop (n + 2)) && guardsIn (ops.take (n + 2)) (n + 2) && drawZB (ops.take (n + 2)) (masks (ops.take (n + 2)) []) (n + 1) n) = true := by decide +kernel)
    (h2 : ((ops.take (n + 2)).all fun o => dstOk N.nt o.dst) = true := by kernel_rfl) : TryT C N ops st K n := by
  rw [Bool.and_eq_true] at h1
  exact ⟨⟨.inr (.inr (.inl ⟨n + 2, h1.1, .inr ⟨n + 1, n, _, h1.2, h2, h⟩⟩))⟩⟩
theorem TryS.other (h : TryG C N ops st K 1) : TryS C N ops st K n := ⟨h.w⟩
theorem TryS.next (_ : Nat.blt n ops.length = true) (h : TryS C N ops st K (n + 1)) : TryS C N ops st K n := ⟨h.w⟩
theorem TryS.go (h1 : drawSB ops (masks ops []) n = true) (h2 : (ops.all fun o => dstOk N.nt o.dst) = true) (h : vcS C ops st n K) : TryS C N ops st K n := ⟨⟨.inl ⟨n, _, h1, h2, h⟩⟩⟩
end
inductive Ex where
  | nm | rt | ex (id : Nat)
theorem Cases.yes {t : Bool} {K : Bool → Prop} (h : t = true) (k : K true) : Cases t K := ⟨fun _ => k, fun h' => (by rw [h] at h'; cases h')⟩
theorem Cases.no {t : Bool} {K : Bool → Prop} (h : t = false) (k : K false) : Cases t K := ⟨fun h' => (by rw [h] at h'; cases h'), fun _ => k⟩
theorem Cases.y {t : Bool} {K : Bool → Prop} (k : K true) (h : t = true := by (first | assumption | exact decide_eq_true (by first | assumption | omega) | exact congrArg (!·) (decide_eq_false (by first | assumption | omega)) | exact congrArg (!·) (show _ = false by assumption) | rfl)) : Cases t K := .yes h k
theorem Cases.n {t : Bool} {K : Bool → Prop} (k : K false) (h : t = false := by (first | assumption | exact decide_eq_false (by first | assumption | omega) | exact congrArg (!·) (decide_eq_true (by first | assumption | omega)) | exact congrArg (!·) (show _ = true by assumption) | rfl)) : Cases t K := .no h k
theorem Ob.g {A B : Prop} (b : B) (a : A := by (first | omega | (simp only [InK]; omega) | exact ⟨by omega, tdivIn (by omega) (by omega)⟩ | exact ⟨by first | omega | (simp only [InK]; omega), by first | omega | (simp only [InK]; omega)⟩)) : Ob A B := ⟨a, b⟩
def oneSt (ops : List Oper) : Bool := Nat.ble ((ops.filter fun o => match o.op with
  | .store .. => true
  | _ => false).length) 1
theorem WrOb.g {k : IntKind} {x : Int} {K : Int → Prop} (h : K x) (a : InK k x := by (first | omega | (simp only [InK]; omega))) : WrOb k x K := ⟨x, wrap_in a, h⟩
theorem WrOb.u32 {x : Int} {K : Int → Prop} (h : K (x % 4294967296)) : WrOb .u32 x K := ⟨_, IntKind.wrap_u32 x, h⟩
theorem WrOb.u64 {x : Int} {K : Int → Prop} (h : K (x % 18446744073709551616)) : WrOb .u64 x K := ⟨_, IntKind.wrap_u64 x, h⟩
theorem Idx.g {i : Int} {n m : Nat} {K : Nat → Prop} (h1 : i = m) (k : K m) (h2 : m < n := by first | assumption | omega) : Idx i n K := ⟨m, h1, h2, k⟩
theorem Idx.z {i : Int} {n : Nat} {K : Nat → Prop} (h1 : i = (0 : Nat)) (k : K 0) (h2 : 0 < n := by omega) : Idx i n K := ⟨0, h1, h2, k⟩
section
variable {C : Ctx} {N : Fnx} {ops : List Oper} {st : St} {K : St → Prop} {n : Nat}
theorem TryF.f (h : vcFast C ops st 0 (ops.take n) [] fun st' => vcSeq C N ops (ops.drop n) st' K) (a : Nat.ble (drawN ops) n = true := by rfl) (h1 : (drawB ops n (masks (ops.take n) []) && fastOk ops n (masks (ops.take n) []) && (ops.take n).all plainO) = true := by decide +kernel)
    (h2 : ((ops.take n).all fun o => dstOk N.nt o.dst) = true := by kernel_rfl) : TryF C N ops st K n := .fast a h1 h2 h
theorem TryA.g (h : apMatch (appE ops (appAt ops)) fun d s x t => vcAp C N ops (masks (ops.take n) []) st n (appAt ops) d s x t K) (h1 : (drawAB ops n (appAt ops) (masks (ops.take n) []) && (appE ops (appAt ops)).isSome) = true := by decide +kernel)
    (h2 : ((ops.take n).all fun o => dstOk N.nt o.dst) = true := by kernel_rfl) : TryA C N ops st K n := .go h1 h2 h
theorem TryS.g (h : vcS C ops st n K) (h1 : (oneSt ops && drawSB ops (masks ops []) n) = true := by decide +kernel) (h2 : (ops.all fun o => dstOk N.nt o.dst) = true := by kernel_rfl) : TryS C N ops st K n := .go (by rw [Bool.and_eq_true] at h1; exact h1.2) h2 h
theorem TryG.g (h : vcHead C ops ((ops.take n).map (·.dst)) (masks (ops.take n) []) st 0 (ops.take n) [] fun rs => vcSeq C N ops (ops.drop n) (stH st ((ops.take n).map (·.dst)) rs (fun _ => true) (st.nx + n)) K) (a : Nat.ble (drawN ops) n = true := by rfl)
    (h1 : drawB ops n (masks (ops.take n) []) = true := by decide +kernel) (h2 : ((ops.take n).all fun o => dstOk N.nt o.dst) = true := by kernel_rfl) : TryG C N ops st K n := .go a h1 h2 h
end
theorem Sp.g {C : Ctx} {st : St} {f : FuncId} {args : List AV} {r : AV} {K : Res → Prop} (h : Sp C f args r) (hk : K ⟨r, none⟩) (hcl : args.all (avB []) = true := by rfl) : CallP C st f args K := h.call (ArgsLe.refl _) hcl (AvLe.refl _) hk
theorem Ent.g {st st' : St} (tm : TmE st.tm st'.tm := by (repeat (first | exact TmE.nil | exact OwnE.nil | refine TmE.cons (by first | exact AvLe.refl _ | exact AvLe.int (by omega) | exact AvLe.bool (by first | rfl | assumption)) ?_ | refine OwnE.cons rfl (BlkLe.refl _) ?_ | refine OwnE.cons rfl BlkLe.zero ?_))) (own : OwnE st.own st'.own := by (repeat (first | exact TmE.nil | exact OwnE.nil | refine TmE.cons (by first | exact AvLe.refl _ | exact AvLe.int (by omega) | exact AvLe.bool (by first | rfl | assumption)) ?_ | refine OwnE.cons rfl (BlkLe.refl _) ?_ | refine OwnE.cons rfl BlkLe.zero ?_))) (cl : closedB st' = true := by rfl) : Ent st st' := ⟨tm, own, cl⟩
structure LoopOb (B : St → (Ex → St → Prop) → Prop) (st : St) (K : Ex → St → Prop) : Prop where
  w : ∃ (α : Type) (I : α → St) (φ : α → Prop) (μ : α → Nat), (∃ x σ, φ x ∧ Ent (rens σ st) (I x)) ∧ ∀ x, φ x → B (I x) fun e st' => match e with
    | .nm => ∃ y σ, φ y ∧ μ y < μ x ∧ Ent (rens σ st') (I y)
    | e => K e st'
structure CutOb (A : (Ex → St → Prop) → Prop) (B : St → Prop) (K : Ex → St → Prop) : Prop where
  w : ∃ (α : Type) (I : α → St) (φ : α → Prop), (A fun e st' => match e with
    | .nm => ∃ x σ, φ x ∧ Ent (rens σ st') (I x)
    | e => K e st') ∧ ∀ x, φ x → B (I x)
def setB (st : St) (c : Operand) (t : Bool) : St := match c with
  | .tmp s => { st with tm := (s, bool t) :: st.tm }
  | _ => st
def codeId : Code → Option Nat
  | .region id _ _ => some id
  | .seq a _ => codeId a
  | .cond _ a b => match codeId a with
    | some i => some i
    | none => codeId b
  | .block id _ => some id
  | .loop b => codeId b
  | .scope b => codeId b
  | _ => none
def cutB (N : Fnx) (c : Code) : Bool := match codeId c with
  | some i => N.hints.any fun p => Nat.beq p.1 i
  | none => false
def frzAt (N : Fnx) (id : Nat) (st : St) : Option St := frzs ((N.hints.filter fun p => Nat.beq p.1 (id + 1000000)).map (·.2)) st
def vcC (C : Ctx) (N : Fnx) : Code → St → (Ex → St → Prop) → Prop
  | .skip, st, K => K .nm st
  | .region id ops draw, st, K => match frzAt N id st with
    | some st => match draw with
      | true => DrawOb C N ops.toList st (K .nm)
      | false => guardB (storesOk ops.toList) (vcSeq C N ops.toList ops.toList st (K .nm))
    | none => False
  | .seq a b, st, K => match cutB N a with
    | true => CutOb (vcC C N a st) (fun st' => vcC C N b st' K) K
    | false => vcC C N a st fun e st' => match e with
      | .nm => vcC C N b st' K
      | e => K e st'
  | .cond c x y, st, K => match ev st c with
    | .v (.c (.x (.bool t))) => Cases t fun tb => match tb with
      | true => vcC C N x (setB st c true) K
      | false => vcC C N y (setB st c false) K
    | _ => False
  | .block id b, st, K => vcC C N b st fun e st' => match e with
    | .ex i => bif Nat.beq i id then K .nm st' else K (.ex i) st'
    | e => K e st'
  | .loop b, st, K => LoopOb (vcC C N b) st K
  | .exit id, st, K => K (.ex id) st
  | .ret, st, K => K .rt st
  | .scope b, st, K => vcC C N b st K
  | .label _, st, K => K .nm st
  | _, _, _ => False

def QofK (F : Fix) (K : Ex → St → Prop) (Q : Exit → Act → World → Prop) : Prop :=
  (∀ st' a' w', K .nm st' → Sat F st' a' w' → Q .normal a' w') ∧ (∀ st' a' w', K .rt st' → Sat F st' a' w' → Q .ret a' w') ∧ ∀ i st' a' w', K (.ex i) st' → Sat F st' a' w' → Q (.exit i) a' w'
section
variable {C : Ctx} {N : Fnx} {F : Fix}
theorem sat_ent {st st' : St} {a : Act} {w : World} {σ : List Rn} (e : Ent (rens σ st) st') (hs : Sat F st a w) : Sat F st' a w := by
  obtain ⟨ρ, h⟩ := sat_rens (l := σ) hs
  exact ⟨ρ, h.ent e⟩
theorem sat_setB {st : St} {a : Act} {w : World} {c : Operand} {t : Bool} (hc : ev st c = .v (.c (.x (.bool t)))) (hs : Sat F st a w) : a.eval c = .bool t ∧ Sat F (setB st c t) a w := by
  obtain ⟨ρ, hs⟩ := hs
  have h1 := ev_x hs hc
  refine ⟨h1, ρ, ?_⟩
  cases c with
  | tmp s =>
    refine ⟨hs.dfr, hs.nt, fun q ρ' w' k1 k2 => ?_, hs.own, hs.inj, hs.base, hs.dis, hs.below, hs.gl, hs.oo⟩
    show (gt ((s, bool t) :: st.tm) q).at ρ' w' _
    rw [gt_cons]
    split
    · next e => subst e; exact ⟨by rw [show a.tmps.getD s undef = .bool t from h1]; rfl, h1⟩
    · exact hs.tm q ρ' w' k1 k2
  | _ => exact hs
theorem vcC_sound (hT : TysOk C.P C.tys) (hm : C.P.follows .mixedOrders = true) (hG : F.G = C.G) (hN : F.nt = N.nt) : ∀ (c : Code) {st : St} {a : Act} {w : World} {K : Ex → St → Prop} {Q : Exit → Act → World → Prop}, vcC C N c st K → QofK F K Q → Sat F st a w → c.wp C.P Q a w
  | .skip, st, a, w, K, Q, h, hQ, hs => wp_skip (hQ.1 _ _ _ h hs)
  | .region id ops draw, st, a, w, K, Q, h, hQ, hs => by
    rw [vcC] at h
    split at h
    · next st1 hf =>
      obtain ⟨ρ, hs⟩ := hs
      have hs1 : Sat F st1 a w := ⟨ρ, frzs_sat hf hs⟩
      cases draw with
      | true => exact draw_sound (l := ops.toList) hT hm h hG hN hQ.1 hs1 id
      | false =>
        obtain ⟨h0, h1⟩ := guardB_out h
        exact wp_region_lit (l := ops.toList) (vcSeq_sound hT hG hN h0 h1 hQ.1 hs1)
    · exact h.elim
  | .seq x y, st, a, w, K, Q, h, hQ, hs => by
    rw [vcC] at h
    refine wp_seq ?_
    split at h
    · obtain ⟨α, I, φ, hA, hB⟩ := h.w
      refine vcC_sound hT hm hG hN x hA ⟨fun st' a' w' h' hs' => ?_, fun st' a' w' h' hs' => hQ.2.1 _ _ _ h' hs', fun i st' a' w' h' hs' => hQ.2.2 _ _ _ _ h' hs'⟩ hs
      obtain ⟨z, σ, hz, he⟩ := h'
      exact vcC_sound hT hm hG hN y (hB z hz) hQ (sat_ent he hs')
    · exact vcC_sound hT hm hG hN x h ⟨fun st' a' w' h' hs' => vcC_sound hT hm hG hN y h' hQ hs', fun st' a' w' h' hs' => hQ.2.1 _ _ _ h' hs', fun i st' a' w' h' hs' => hQ.2.2 _ _ _ _ h' hs'⟩ hs
  | .cond c x y, st, a, w, K, Q, h, hQ, hs => by
    rw [vcC] at h
    split at h
    · next t hc =>
      have hg := h.get
      obtain ⟨h1, h2⟩ := sat_setB hc hs
      refine wp_cond h1 ?_
      cases t with
      | true => exact vcC_sound hT hm hG hN x hg hQ h2
      | false => exact vcC_sound hT hm hG hN y hg hQ h2
    · exact h.elim
  | .block id b, st, a, w, K, Q, h, hQ, hs => by
    rw [vcC] at h
    refine wp_block (vcC_sound hT hm hG hN b h ⟨fun st' a' w' h' hs' => hQ.1 _ _ _ h' hs', fun st' a' w' h' hs' => hQ.2.1 _ _ _ h' hs', fun i st' a' w' h' hs' => ?_⟩ hs)
    simp only [Exit.inBlock]
    by_cases hi : i = id
    · rw [if_pos hi]
      simp only [nbeq_t hi, cond_true] at h'
      exact hQ.1 _ _ _ h' hs'
    · rw [if_neg hi]
      simp only [nbeq_f hi, cond_false] at h'
      exact hQ.2.2 _ _ _ _ h' hs'
  | .loop b, st, a, w, K, Q, h, hQ, hs => by
    rw [vcC] at h
    obtain ⟨α, I, φ, μ, ⟨x0, σ0, hx0, he0⟩, hr⟩ := h.w
    refine wp_loop_ghost (fun n a w => ∃ x, μ x = n ∧ φ x ∧ Sat F (I x) a w) (μ x0) ⟨x0, rfl, hx0, sat_ent he0 hs⟩ ?_
    rintro n a w ⟨x, rfl, hx, hsx⟩
    refine vcC_sound hT hm hG hN b (hr x hx) ⟨fun st' a' w' h' hs' => ?_, fun st' a' w' h' hs' => hQ.2.1 _ _ _ h' hs', fun i st' a' w' h' hs' => hQ.2.2 _ _ _ _ h' hs'⟩ hsx
    obtain ⟨y, σ, hy, hlt, he⟩ := h'
    exact ⟨μ y, hlt, y, rfl, hy, sat_ent he hs'⟩
  | .exit id, st, a, w, K, Q, h, hQ, hs => wp_exit (hQ.2.2 _ _ _ _ h hs)
  | .ret, st, a, w, K, Q, h, hQ, hs => wp_ret (hQ.2.1 _ _ _ h hs)
  | .scope b, st, a, w, K, Q, h, hQ, hs => wp_scope_straight (vcC_sound hT hm hG hN b (K := K) h ⟨fun _ _ _ h' hs' => hQ.1 _ _ _ h' hs', fun _ _ _ h' hs' => hQ.2.1 _ _ _ h' hs', fun _ _ _ _ h' hs' => hQ.2.2 _ _ _ _ h' hs'⟩ hs)
  | .label _, st, a, w, K, Q, h, hQ, hs => wp_label (hQ.1 _ _ _ h hs)
  | .rangeFunc .., _, _, _, _, _, h, _, _ => h.elim
  | .goto _, _, _, _, _, _, h, _, _ => h.elim
  | .refuse _, _, _, _, _, _, h, _, _ => h.elim

/-! The results. -/
def resRun (tmps : Array Value) : ResultVar → Sem Value
  | .tmp t => pure (tmps.getD t undef)
  | .cell a t => do loadVar t (← asAddr (tmps.getD a undef))
def resV (C : Ctx) (st : St) : ResultVar → Option V1
  | .tmp t => match gt st.tm t with
    | .v a => some a
    | _ => none
  | .cell t ty => match tg C.tys ty with
    | some d => match gt st.tm t with
      | .v (.c (.loc b o)) => match og st.own b with
        | some (.st ls) => match Nat.ble (o + d.size) ls.length && one1 d with
          | true => match vload d.k.agg d.size ((ls.drop o).take d.size) with
            | .v a => some a
            | _ => none
          | false => none
        | _ => none
      | _ => none
    | none => none
def resL (C : Ctx) (st : St) : List ResultVar → Option (List V1)
  | [] => some []
  | x :: l => match resV C st x with
    | some a => match resL C st l with
      | some m => some (a :: m)
      | none => none
    | none => none
def tupOf : List V1 → AV
  | [a] => .v a
  | l => .tup l
def valOf : List Value → Value
  | [v] => v
  | l => .tuple l.toArray
section
variable {ρ : Nat → Value} {st : St} {a : Act} {w : World}
theorem resV_run (hT : TysOk C.P C.tys) (hs : SatE F ρ st a w) {x : ResultVar} {r : V1} (h : resV C st x = some r) : ∃ v, (resRun a.tmps x).run C.P w = .ok v w ∧ Rob F ρ st.own w fun ρ' w' => r.at ρ' w' v := by
  cases x with
  | tmp t =>
    simp only [resV] at h
    split at h
    · next a1 ha =>
      cases h
      refine ⟨_, rfl, fun ρ' w' k1 k2 => ?_⟩
      have := hs.tm t ρ' w' k1 k2
      rw [ha] at this
      exact this
    · cases h
  | cell t ty =>
    simp only [resV] at h
    split at h
    · next d ht =>
      split at h
      · next b o hx =>
        split at h
        · next ls hb =>
          split at h
          · next hc =>
            split at h
            · next a1 ha =>
              cases h
              rw [Bool.and_eq_true] at hc
              obtain ⟨g, cs, q1, q2, q3, q4⟩ := st_cells hs hb (Nat.le_of_ble_eq_true hc.1)
              have e : a.tmps.getD t undef = .pointer (some ⟨g, o, none⟩) := by
                have := (hs.tm t).now
                rw [hx] at this
                rw [this.2, q1, locV_ptr]
              have hl : ((ls.drop o).take d.size).length = d.size := by
                have := Nat.le_of_ble_eq_true hc.1
                rw [List.length_take, List.length_drop]; omega
              have hr := run_loadVar (tysOk_get hT ht) g o cs w q3 (by omega) (one1_spec hc.2)
              refine ⟨_, by
                simp only [resRun, e, asAddr, Sem.run_bind, Sem.run_pure, Result.andThen_ok]
                exact hr, fun ρ' w' k1 k2 => ?_⟩
              have := vload_at (q4 ρ' w' k1 k2) (by omega) hc.2
              rw [ha] at this
              exact this
            · cases h
          · cases h
        · cases h
      · cases h
    · cases h
theorem resL_run (hT : TysOk C.P C.tys) (hs : SatE F ρ st a w) : ∀ {l : List ResultVar} {ts : List V1}, resL C st l = some ts → ∃ vs, (l.mapM (resRun a.tmps)).run C.P w = .ok vs w ∧ Rob F ρ st.own w fun ρ' w' => TupR (V1.at ρ' w') ts vs
  | [], ts, h => by cases h; exact ⟨[], rfl, fun _ _ _ _ => trivial⟩
  | x :: l, ts, h => by
    rw [resL] at h
    split at h
    · next a1 h1 =>
      split at h
      · next m h2 =>
        cases h
        obtain ⟨v, q1, q2⟩ := resV_run hT hs h1
        obtain ⟨vs, q3, q4⟩ := resL_run hT hs h2
        exact ⟨v :: vs, by simp only [List.mapM_cons, Sem.run_bind, q1, Result.andThen_ok, q3, Sem.run_pure], fun ρ' w' k1 k2 => ⟨q2 ρ' w' k1 k2, q4 ρ' w' k1 k2⟩⟩
      · cases h
    · cases h
theorem run_results {fn : Func} {tmps : Array Value} {P : Program} {w w' : World} {vs : List Value} (h : (fn.results.toList.mapM (resRun tmps)).run P w = .ok vs w') : (results fn tmps).run P w = .ok (valOf vs) w' := by
  have e : results fn tmps = (do
      let vs ← fn.results.mapM (resRun tmps)
      Pure.pure (if h : vs.size = 1 then vs[0] else .tuple vs)) := by
    unfold results
    congr 1
  rw [e, Array.mapM_eq_mapM_toList]
  simp only [map_eq_pure_bind, Sem.run_bind, h, Result.andThen_ok, Sem.run_pure]
  match vs with
  | [] => rfl
  | [v] => rfl
  | v :: u :: l => simp [valOf]
theorem tupOf_at {ρ : Nat → Value} {w : World} : ∀ {ts : List V1} {vs : List Value}, TupR (V1.at ρ w) ts vs → (tupOf ts).at ρ w (valOf vs)
  | [], [], _ => ⟨[], rfl, trivial⟩
  | [_], [_], ⟨h, _⟩ => h
  | _ :: _ :: _, _ :: _ :: _, h => ⟨_, rfl, h⟩
  | [], _ :: _, h => h.elim
  | _ :: _, [], h => h.elim
  | [_], _ :: _ :: _, ⟨_, h⟩ => h.elim
  | _ :: _ :: _, [_], ⟨_, h⟩ => h.elim
end
structure RetOb (C : Ctx) (rs : List ResultVar) (fz : List Nat) (r : AV) (st : St) : Prop where
  w : ∃ st' ts, frzs fz st = some st' ∧ resL C st' rs = some ts ∧ AvLe (tupOf ts) r
def argsTm : List AV → Nat → List (Nat × AV)
  | [], _ => []
  | a :: l, i => (i, a) :: argsTm l (i + 1)
theorem argsTm_at {ρ : Nat → Value} {w : World} : ∀ {l : List AV} {vs : List Value} {i t : Nat} {pre : List Value} {n : Nat}, ArgsR (AV.at ρ w) l vs → pre.length = i → (gt (argsTm l i) t).at ρ w (((pre ++ vs).toArray ++ Array.replicate n undef).getD t undef)
  | [], _, _, _, _, _, _, _ => trivial
  | a :: l, v :: vs, i, t, pre, n, ⟨h1, h2⟩, hp => by
    rw [argsTm, gt_cons]
    split
    · next e =>
      subst e
      have : (((pre ++ v :: vs).toArray ++ Array.replicate n undef).getD i undef) = v := by
        rw [Array.getD_eq_getD_getElem?, Array.getElem?_append_left (by simp; omega), List.getElem?_toArray, List.getElem?_append_right (by omega), hp]
        simp
      rw [this]
      exact h1
    · have := argsTm_at (l := l) (vs := vs) (i := i + 1) (t := t) (pre := pre ++ [v]) (n := n) h2 (by simp [hp])
      simpa using this
  | _ :: _, [], _, _, _, _, h, _ => h.elim
theorem argsR_len {R : AV → Value → Prop} : ∀ {l : List AV} {vs : List Value}, ArgsR R l vs → vs.length = l.length
  | [], [], _ => rfl
  | _ :: _, _ :: _, ⟨_, h⟩ => by simp [argsR_len h]
  | [], _ :: _, h => h.elim
  | _ :: _, [], h => h.elim
theorem fn_spec {f : FuncId} {fn : Func} {c : Code} {args : List AV} {r : AV} {nt : Nat} (N : Fnx) (fz : List Nat) (hT : TysOk C.P C.tys) (hm : C.P.follows .mixedOrders = true) (hf : C.P.funcs[f]? = some fn) (hb : fn.body = some c) (hnm : (fn.name == "runtime.NumGoroutine") = false)
    (hn : fn.ntmps = nt) (hnt : Nat.beq N.nt (args.length + (nt - args.length)) = true) (hcl : avB [] r = true)
    (h : vcC C N c ⟨argsTm args 0, [], 0⟩ fun e st' => match e with
      | .ex _ => False
      | _ => RetOb C fn.results.toList fz r st') : Sp C f args r := by
  refine ⟨⟨fn, hf, hnm, by rw [hb]; rfl⟩, hcl, fun O w vs hO hG hargs => ?_⟩
  have hlen := argsR_len (hargs (fun _ => undef) w (Ext.refl _ _))
  let F : Fix := { O := O, G := C.G, w0 := w, nt := N.nt }
  have hs0 : Sat F ⟨argsTm args 0, [], 0⟩ { tmps := vs.toArray ++ Array.replicate (fn.ntmps - vs.toArray.size) undef, defers := [] } w := by
    refine ⟨fun _ => undef, rfl, ?_, fun t ρ' w' _ k2 => ?_, fun b k h => (by cases h), fun b b' k h => (by cases h), fun b k h => (by cases h), fun b k h => (by cases h), Below.refl _ _, fun ρ' w' _ k2 => hG w' (k2.mono fun k _ hk => hk.elim id fun ⟨b, hb, _⟩ => (by cases hb)), hO⟩
    · simp only [Array.size_append, Array.size_replicate, List.size_toArray, hlen, hn]
      exact (Nat.eq_of_beq_eq_true hnt).symm
    · have := argsTm_at (ρ := ρ') (w := w') (i := 0) (t := t) (pre := []) (n := fn.ntmps - vs.toArray.size) (hargs ρ' w' (k2.mono fun k _ hk => hk.elim id fun ⟨b, hb, _⟩ => (by cases hb))) rfl
      simpa using this
  refine calls_of_wp hf hb (vcC_sound (F := F) hT hm rfl rfl c h ⟨?_, ?_, ?_⟩ hs0)
  · rintro st' a' w' ⟨st1, ts, h1, h2, h3⟩ ⟨ρ, hs⟩
    have hs := frzs_sat h1 hs
    obtain ⟨vs', q1, q2⟩ := resL_run hT hs h2
    refine ⟨hs.dfr, valOf vs', run_results q1, valOf vs', rfl, hs.below, fun ρ' w'' hx => ?_⟩
    exact avB_at (own := []) (fun _ h => by cases h) hcl (h3.h ρ w'' _ (tupOf_at (q2 ρ w'' (Agr.refl _ _) (hx.mono fun k _ hk => Or.inl hk))))
  · rintro st' a' w' ⟨st1, ts, h1, h2, h3⟩ ⟨ρ, hs⟩
    have hs := frzs_sat h1 hs
    obtain ⟨vs', q1, q2⟩ := resL_run hT hs h2
    refine ⟨hs.dfr, valOf vs', run_results q1, valOf vs', rfl, hs.below, fun ρ' w'' hx => ?_⟩
    exact avB_at (own := []) (fun _ h => by cases h) hcl (h3.h ρ w'' _ (tupOf_at (q2 ρ w'' (Agr.refl _ _) (hx.mono fun k _ hk => Or.inl hk))))
  · rintro i st' a' w' h _
    exact h.elim
theorem fn_sp {f : FuncId} {fn : Func} {c : Code} {args : List AV} {r : AV} {nt : Nat} (hints : List (Nat × Nat)) (fz : List Nat) (hT : TysOk C.P C.tys) (hm : C.P.follows .mixedOrders = true) (hf : C.P.funcs[f]? = some fn) (hb : fn.body = some c) (hnm : (fn.name == "runtime.NumGoroutine") = false)
    (hn : fn.ntmps = nt) (hle : Nat.ble args.length nt = true) (hcl : avB [] r = true)
    (h : vcC C ⟨nt, hints, []⟩ c ⟨argsTm args 0, [], 0⟩ fun e st' => match e with
      | .ex _ => False
      | _ => RetOb C fn.results.toList fz r st') : Sp C f args r :=
  fn_spec ⟨nt, hints, []⟩ fz hT hm hf hb hnm hn (nbeq_t (by have := Nat.le_of_ble_eq_true hle; show nt = _; omega)) hcl h
structure RetR (rs : List ResultVar) (k : Nat) (e : TypeId) (α : Type) (mk : α → Nat → Leaf) (Z : Nat → α) (n : Nat) (st : St) : Prop where
  w : ∃ t b k0, rs = [.tmp t] ∧ gt st.tm t = .v (.c (.row b)) ∧ og st.own b = some k0 ∧ BlkLe k0 (.rw k e false α mk Z n)
theorem retR_at {F : Fix} {ρ : Nat → Value} {st : St} {a : Act} {w : World} {rs : List ResultVar} {k : Nat} {e : TypeId} {α : Type} {mk : α → Nat → Leaf} {Z : Nat → α} {n : Nat} (hs : SatE F ρ st a w) (h : RetR rs k e α mk Z n st) :
    ∃ v, (rs.mapM (resRun a.tmps)).run C.P w = .ok [v] w ∧ ((v = .slice none 0 0 ∧ n = 0) ∨ ∃ g cap c, v = .slice (some ⟨g, 0, none⟩) n cap ∧ F.w0.heap.size ≤ g ∧ w.heap[g]? = some (.cells c e (0, 0)) ∧ n ≤ cap ∧ cap ≤ maxLen ∧ c.size = cap * k ∧ NoU c.toList ∧
      ∀ i j, i < n → j < k → pureL (mk (Z i) j) = true ∧ ∃ x, c[i * k + j]? = some x ∧ x.oneCell' = true ∧ ∀ ρ' w'', Ext (fun q => F.O q ∨ q = g) w w'' → (mk (Z i) j).at ρ' w'' x) := by
  obtain ⟨t, b, k0, rfl, ht, hb, hle⟩ := h.w
  have hv : a.tmps.getD t undef = ρ b := by
    have := (hs.tm t).now
    rw [ht] at this
    exact this.2.2
  refine ⟨a.tmps.getD t undef, by simp [resRun], ?_⟩
  rw [hv]
  have hA := hle.h w _ (fun l u => Rob F ρ st.own w fun ρ' w' => l.at ρ' w' u) _ (fun l l' u hl ho hr ρ' w' k1 k2 => hl.h ρ' w' u ho (hr ρ' w' k1 k2)) (hs.own b k0 hb)
  rcases hA with hA | ⟨g, cap, c, h1, h2, h3, h4, h5, h6, h7⟩
  · exact .inl hA
  · refine .inr ⟨g, cap, c, h1, hs.base b g (by rw [hb]; rfl) (by rw [h1]; rfl), h2, h3, h4, h5, h6, fun i j hi hj => ?_⟩
    obtain ⟨pp, x, x1, x2, x3⟩ := h7 i j hi hj
    exact ⟨pp, x, x1, x2, fun ρ' w'' hx => pureL_at pp (x3 ρ w'' (Agr.refl _ _) (hx.mono fun q _ hq => by
      rcases hq with h | h
      · exact .inl h
      · exact .inr ⟨b, by rw [hb]; rfl, by rw [h1, h]; rfl⟩))⟩
theorem fn_spR {f : FuncId} {fn : Func} {c : Code} {args : List AV} {nt : Nat} {k : Nat} {e : TypeId} {α : Type} {mk : α → Nat → Leaf} {Z : Nat → α} {n : Nat} (hints : List (Nat × Nat)) (hT : TysOk C.P C.tys) (hm : C.P.follows .mixedOrders = true) (hf : C.P.funcs[f]? = some fn) (hb : fn.body = some c) (hnm : (fn.name == "runtime.NumGoroutine") = false)
    (hn : fn.ntmps = nt) (hle : Nat.ble args.length nt = true)
    (h : vcC C ⟨nt, hints, []⟩ c ⟨argsTm args 0, [], 0⟩ fun ex st' => match ex with
      | .ex _ => False
      | _ => RetR fn.results.toList k e α mk Z n st') : SpR C f args k e α mk Z n := by
  refine ⟨⟨fn, hf, hnm, by rw [hb]; rfl⟩, fun O w vs hO hG hargs => ?_⟩
  have hlen := argsR_len (hargs (fun _ => undef) w (Ext.refl _ _))
  have hle := Nat.le_of_ble_eq_true hle
  let F : Fix := { O := O, G := C.G, w0 := w, nt := nt }
  have hs0 : Sat F ⟨argsTm args 0, [], 0⟩ { tmps := vs.toArray ++ Array.replicate (fn.ntmps - vs.toArray.size) undef, defers := [] } w := by
    refine ⟨fun _ => undef, rfl, ?_, fun t ρ' w' _ k2 => ?_, fun b k h => (by cases h), fun b b' k h => (by cases h), fun b k h => (by cases h), fun b k h => (by cases h), Below.refl _ _, fun ρ' w' _ k2 => hG w' (k2.mono fun k _ hk => hk.elim id fun ⟨b, hb, _⟩ => (by cases hb)), hO⟩
    · simp only [Array.size_append, Array.size_replicate, List.size_toArray, hlen, hn]
      show _ = nt
      omega
    · have := argsTm_at (ρ := ρ') (w := w') (i := 0) (t := t) (pre := []) (n := fn.ntmps - vs.toArray.size) (hargs ρ' w' (k2.mono fun k _ hk => hk.elim id fun ⟨b, hb, _⟩ => (by cases hb))) rfl
      simpa using this
  refine calls_of_wp hf hb (vcC_sound (F := F) hT hm rfl rfl c h ⟨?_, ?_, ?_⟩ hs0)
  · rintro st' a' w' hr ⟨ρ, hs⟩
    obtain ⟨v, q1, q2⟩ := retR_at (C := C) hs hr
    exact ⟨hs.dfr, v, run_results q1, v, rfl, hs.below, q2⟩
  · rintro st' a' w' hr ⟨ρ, hs⟩
    obtain ⟨v, q1, q2⟩ := retR_at (C := C) hs hr
    exact ⟨hs.dfr, v, run_results q1, v, rfl, hs.below, q2⟩
  · rintro i st' a' w' h _
    exact h.elim
end
/- short names for the walks -/
abbrev Ja := @Ob.g
abbrev Jb := @WrOb.g
abbrev Jc := @WrOb.u32
abbrev Jd := @WrOb.u64
abbrev Je := @Cases.y
abbrev Jf := @Cases.n
abbrev Jg := @Idx.g
abbrev Ji := @DrawOb.start
abbrev Jj := @TryF.f
abbrev Jk := @TryF.next
abbrev Jl := @TryF.other
abbrev Jo := @TryA.other
abbrev Jp := @TryS.g
abbrev Jq := @TryS.next
abbrev Jr := @TryS.other
abbrev Js := @TryG.g
abbrev Jt := @TryG.next
abbrev Ju := @TryG.other
abbrev Jv := @TryT.g
abbrev Jy := @Sp.g
end Go.VG

