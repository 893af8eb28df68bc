/- Own texts joined: VgI, VgJ, VgK, VgL, VgM, VgN, VgO. -/
import Derived.Test.YtdjfndfkjbjcpaaGreatDoorPkVgA
import Derived.Test.YtdjfndfkjbjcpaaGreatDoorPkRegA
/- States in letters: one state for another; blocks of the call's own that are written no more; the operations that write. -/
namespace Go.VG
open Go Go.RowKit

structure LeafLe (l l' : Leaf) : Prop where
  h : ∀ (ρ : Nat → Value) (w : World) (v : Value), v.oneCell' = true → l.at ρ w v → l'.at ρ w v
structure AvLe (a a' : AV) : Prop where
  h : ∀ (ρ : Nat → Value) (w : World) (v : Value), a.at ρ w v → a'.at ρ w v
theorem LeafLe.refl (l : Leaf) : LeafLe l l := ⟨fun _ _ _ _ h => h⟩
theorem LeafLe.eq {l l' : Leaf} (h : l = l') : LeafLe l l' := ⟨fun _ _ _ _ k => h ▸ k⟩
theorem LeafLe.any (l : Leaf) : LeafLe l .any := ⟨fun _ _ _ _ _ => trivial⟩
theorem AvLe.refl (a : AV) : AvLe a a := ⟨fun _ _ _ h => h⟩
theorem AvLe.eq {a a' : AV} (h : a = a') : AvLe a a' := ⟨fun _ _ _ k => h ▸ k⟩
theorem AvLe.trans {a b c : AV} (h : AvLe a b) (k : AvLe b c) : AvLe a c := ⟨fun ρ w v x => k.h ρ w v (h.h ρ w v x)⟩
theorem LeafLe.trans {a b c : Leaf} (h : LeafLe a b) (k : LeafLe b c) : LeafLe a c := ⟨fun ρ w v o x => k.h ρ w v o (h.h ρ w v o x)⟩
theorem AvLe.any (a : AV) : AvLe a .any := ⟨fun _ _ _ _ => trivial⟩
theorem AvLe.int {k : IntKind} {n m : Int} (h : n = m) : AvLe (VG.int k n) (VG.int k m) := .eq (by rw [h])
theorem AvLe.bool {n m : Bool} (h : n = m) : AvLe (VG.bool n) (VG.bool m) := .eq (by rw [h])
theorem AvLe.leaf {l l' : Leaf} (h : LeafLe l l') : AvLe (.v (.c l)) (.v (.c l')) := ⟨fun ρ w v k => ⟨k.1, h.h ρ w v k.1 k.2⟩⟩
theorem LeafLe.int {k : IntKind} {n m : Int} (h : n = m) : LeafLe (.x (.int k n)) (.x (.int k m)) := .eq (by rw [h])
theorem LeafLe.bool {n m : Bool} (h : n = m) : LeafLe (.x (.bool n)) (.x (.bool m)) := .eq (by rw [h])
inductive LsLe : List Leaf → List Leaf → Prop
  | nil : LsLe [] []
  | cons {l l' ls ls'} : LeafLe l l' → LsLe ls ls' → LsLe (l :: ls) (l' :: ls')
theorem LsLe.cells {R R' : Leaf → Value → Prop} (hR : ∀ l l' u, LeafLe l l' → u.oneCell' = true → R l u → R' l' u) : ∀ {ls ls' : List Leaf} {us : List Value}, LsLe ls ls' → CellsR R ls us → CellsR R' ls' us
  | _, _, [], .nil, h => h
  | _, _, _ :: _, .cons h1 h2, ⟨⟨k1, k2⟩, k3⟩ => ⟨⟨k1, hR _ _ _ h1 k1 k2⟩, h2.cells hR k3⟩
  | _, _, _ :: _, .nil, h => h.elim
  | _, _, [], .cons _ _, h => h.elim
theorem AvLe.agg {ls ls' : List Leaf} (h : LsLe ls ls') : AvLe (.v (.agg ls)) (.v (.agg ls')) :=
  ⟨fun ρ w _ ⟨cs, e, hc⟩ => ⟨cs, e, h.cells (R' := Leaf.at ρ w) (fun _ _ u hl ho hr => hl.h ρ w u ho hr) hc⟩⟩
inductive TsLe : List V1 → List V1 → Prop
  | nil : TsLe [] []
  | cons {t t' ts ts'} : AvLe (.v t) (.v t') → TsLe ts ts' → TsLe (t :: ts) (t' :: ts')
theorem TsLe.tup {ρ : Nat → Value} {w : World} : ∀ {ts ts' : List V1} {us : List Value}, TsLe ts ts' → TupR (V1.at ρ w) ts us → TupR (V1.at ρ w) ts' us
  | _, _, [], .nil, h => h
  | _, _, _ :: _, .cons h1 h2, ⟨k1, k2⟩ => ⟨h1.h ρ w _ k1, h2.tup k2⟩
  | _, _, _ :: _, .nil, h => h.elim
  | _, _, [], .cons _ _, h => h.elim
theorem AvLe.tup {ts ts' : List V1} (h : TsLe ts ts') : AvLe (.tup ts) (.tup ts') := ⟨fun _ _ _ ⟨vs, e, hv⟩ => ⟨vs, e, h.tup hv⟩⟩
theorem LeafLe.sl {k n : Nat} {α β : Type} {mk : α → Nat → Leaf} {mk' : β → Nat → Leaf} {Z : Nat → α} {Z' : Nat → β} (h : ∀ i j, i < n → j < k → LeafLe (mk (Z i) j) (mk' (Z' i) j)) : LeafLe (.sl k α mk Z n) (.sl k β mk' Z' n) :=
  ⟨fun _ w _ _ ⟨a, cap, e, h0, h1, h2⟩ => ⟨a, cap, e, h0, h1, fun g off sp q => ⟨(h2 g off sp q).1, fun i j hi hj => by
    obtain ⟨u, u1, u2, u3⟩ := (h2 g off sp q).2 i j hi hj
    exact ⟨u, u1, u2, fun r => (h i j hi hj).h r w u u2 (u3 r)⟩⟩⟩⟩
theorem LeafLe.nil {k : Nat} {α : Type} {mk : α → Nat → Leaf} {Z : Nat → α} : LeafLe (.x (.slice none 0 0)) (.sl k α mk Z 0) :=
  ⟨fun _ _ _ _ e => ⟨none, 0, e, Nat.le_refl _, fun _ => rfl, fun _ _ _ q => by cases q⟩⟩
structure BlkLe (k k' : Blk) : Prop where
  h : ∀ (w : World) (R R' : Leaf → Value → Prop) (v : Value), (∀ l l' u, LeafLe l l' → u.oneCell' = true → R l u → R' l' u) → k.At w R v → k'.At w R' v
theorem BlkLe.st {ls ls' : List Leaf} (h : LsLe ls ls') : BlkLe (.st ls) (.st ls') :=
  ⟨fun _ _ _ _ hR ⟨g, c, e, h1, h2, h3, h4⟩ => ⟨g, c, e, h1, h2, h.cells hR h3, h4⟩⟩
theorem BlkLe.rw {k n : Nat} {e : TypeId} {u : Bool} {α β : Type} {mk : α → Nat → Leaf} {mk' : β → Nat → Leaf} {Z : Nat → α} {Z' : Nat → β} (h : ∀ i j, i < n → j < k → LeafLe (mk (Z i) j) (mk' (Z' i) j)) (hp : ∀ i j, i < n → j < k → pureL (mk' (Z' i) j) = true) : BlkLe (.rw k e u α mk Z n) (.rw k e u β mk' Z' n) :=
  ⟨fun _ _ _ _ hR hA => by
    rcases hA with hA | ⟨g, cap, c, h1, h2, h3, h4, h5, h6, h7⟩
    · exact .inl hA
    · refine .inr ⟨g, cap, c, h1, h2, h3, h4, h5, h6, fun i j hi hj => ?_⟩
      obtain ⟨_, x, x1, x2, x3⟩ := h7 i j hi hj
      exact ⟨hp i j hi hj, x, x1, x2, hR _ _ _ (h i j hi hj) x2 x3⟩⟩
theorem LsLe.refl : ∀ ls : List Leaf, LsLe ls ls
  | [] => .nil
  | l :: ls => .cons (.refl l) (LsLe.refl ls)
theorem BlkLe.refl (k : Blk) : BlkLe k k := by
  cases k with
  | st ls => exact .st (.refl ls)
  | rw k e u α mk Z n =>
    refine ⟨fun w R R' v hR hA => ?_⟩
    rcases hA with hA | ⟨g, cap, c, h1, h2, h3, h4, h5, h6, h7⟩
    · exact .inl hA
    · refine .inr ⟨g, cap, c, h1, h2, h3, h4, h5, h6, fun i j hi hj => ?_⟩
      obtain ⟨pp, x, x1, x2, x3⟩ := h7 i j hi hj
      exact ⟨pp, x, x1, x2, hR _ _ _ (.refl _) x2 x3⟩

def leafB (own : List (Nat × Blk)) : Leaf → Bool
  | .loc b _ => (og own b).isSome
  | .row b => (og own b).isSome
  | .rl b _ _ _ => (og own b).isSome
  | .rs b _ _ _ _ => (og own b).isSome
  | .fn _ bs => bs.all fun b => (og own b).isSome
  | _ => true
def v1B (own : List (Nat × Blk)) : V1 → Bool
  | .c l => leafB own l
  | .agg ls => ls.all (leafB own)
def avB (own : List (Nat × Blk)) : AV → Bool
  | .any => true
  | .v a => v1B own a
  | .tup ts => ts.all (v1B own)
theorem leafB_at {own : List (Nat × Blk)} {l : Leaf} (h : leafB own l = true) {ρ ρ' : Nat → Value} (ha : Agr own ρ ρ') {w : World} {v : Value} (hl : l.at ρ w v) : l.at ρ' w v := by
  cases l with
  | loc b o => show _ = _; rw [ha b h]; exact hl
  | row b => exact ⟨hl.1, by rw [ha b h]; exact hl.2⟩
  | rl b k i j => show _ = _; rw [ha b h]; exact hl
  | rs b k l m V => show _ = _ ∧ _ ∧ _ ∧ _; rw [ha b h]; exact hl
  | fn f bs =>
    show _ = _
    have e : (bs.map fun b => locV (ρ' b) 0) = bs.map fun b => locV (ρ b) 0 := List.map_congr_left fun b hb => by rw [ha b (List.all_eq_true.1 h b hb)]
    rw [e]
    exact hl
  | _ => exact hl
theorem cellsB_at {own : List (Nat × Blk)} {ρ ρ' : Nat → Value} (ha : Agr own ρ ρ') {w : World} : ∀ {ls : List Leaf} {us : List Value}, ls.all (leafB own) = true → CellsR (Leaf.at ρ w) ls us → CellsR (Leaf.at ρ' w) ls us
  | [], [], _, _ => trivial
  | _ :: _, _ :: _, h, ⟨⟨h1, h2⟩, h3⟩ => by
    simp only [List.all_cons, Bool.and_eq_true] at h
    exact ⟨⟨h1, leafB_at h.1 ha h2⟩, cellsB_at ha h.2 h3⟩
  | [], _ :: _, _, h => h.elim
  | _ :: _, [], _, h => h.elim
theorem v1B_at {own : List (Nat × Blk)} {ρ ρ' : Nat → Value} (ha : Agr own ρ ρ') {w : World} {a : V1} (h : v1B own a = true) {v : Value} (hv : a.at ρ w v) : a.at ρ' w v := by
  cases a with
  | c l => exact ⟨hv.1, leafB_at h ha hv.2⟩
  | agg ls => obtain ⟨cs, e, hc⟩ := hv; exact ⟨cs, e, cellsB_at ha h hc⟩
theorem tupB_at {own : List (Nat × Blk)} {ρ ρ' : Nat → Value} (ha : Agr own ρ ρ') {w : World} : ∀ {ls : List V1} {us : List Value}, ls.all (v1B own) = true → TupR (V1.at ρ w) ls us → TupR (V1.at ρ' w) ls us
  | [], [], _, _ => trivial
  | _ :: _, _ :: _, h, ⟨h1, h3⟩ => by
    simp only [List.all_cons, Bool.and_eq_true] at h
    exact ⟨v1B_at ha h.1 h1, tupB_at ha h.2 h3⟩
  | [], _ :: _, _, h => h.elim
  | _ :: _, [], _, h => h.elim
theorem avB_at {own : List (Nat × Blk)} {ρ ρ' : Nat → Value} (ha : Agr own ρ ρ') {w : World} {a : AV} (h : avB own a = true) {v : Value} (hv : a.at ρ w v) : a.at ρ' w v := by
  cases a with
  | any => trivial
  | v a => exact v1B_at ha h hv
  | tup ts => obtain ⟨vs, e, hc⟩ := hv; exact ⟨vs, e, tupB_at ha h hc⟩
def blkB (own : List (Nat × Blk)) : Blk → Bool
  | .st ls => ls.all (leafB own)
  | .rw .. => true
def closedB (st : St) : Bool := st.tm.all (fun p => avB st.own p.2) && st.own.all (fun p => blkB st.own p.2)
inductive TmE (tm : List (Nat × AV)) : List (Nat × AV) → Prop
  | nil : TmE tm []
  | cons {t a l} : AvLe (gt tm t) a → TmE tm l → TmE tm ((t, a) :: l)
inductive OwnE (own : List (Nat × Blk)) : List (Nat × Blk) → Prop
  | nil : OwnE own []
  | cons {b k0 k l} : og own b = some k0 → BlkLe k0 k → OwnE own l → OwnE own ((b, k) :: l)
structure Ent (st st' : St) : Prop where
  tm : TmE st.tm st'.tm
  own : OwnE st.own st'.own
  cl : closedB st' = true
theorem TmE.get {tm tm' : List (Nat × AV)} (h : TmE tm tm') (t : Nat) : AvLe (gt tm t) (gt tm' t) := by
  induction h with
  | nil => exact .any _
  | @cons s a l h1 _ ih =>
    rw [gt_cons]
    split
    · next e => subst e; exact h1
    · exact ih
theorem OwnE.get {own own' : List (Nat × Blk)} (h : OwnE own own') {b : Nat} {k : Blk} (hk : og own' b = some k) : ∃ k0, og own b = some k0 ∧ BlkLe k0 k := by
  induction h with
  | nil => cases hk
  | @cons s k0 k' l h1 h2 _ ih =>
    rw [og_cons] at hk
    split at hk
    · next e => subst e; cases hk; exact ⟨k0, h1, h2⟩
    · exact ih hk
theorem gt_mem {tm : List (Nat × AV)} {t : Nat} {p : AV → Bool} (h : tm.all (fun q => p q.2) = true) (h0 : p .any = true) : p (gt tm t) = true := by
  induction tm with
  | nil => exact h0
  | cons x l ih =>
    obtain ⟨s, a⟩ := x
    simp only [List.all_cons, Bool.and_eq_true] at h
    rw [gt_cons]
    split
    · exact h.1
    · exact ih h.2
theorem og_mem {own : List (Nat × Blk)} {b : Nat} {k : Blk} {p : Blk → Bool} (h : own.all (fun q => p q.2) = true) (hk : og own b = some k) : p k = true := by
  induction own with
  | nil => cases hk
  | cons x l ih =>
    obtain ⟨s, a⟩ := x
    simp only [List.all_cons, Bool.and_eq_true] at h
    rw [og_cons] at hk
    split at hk
    · cases hk; exact h.1
    · exact ih h.2 hk
section
variable {C : Ctx} {F : Fix} {ρ : Nat → Value} {st st' : St} {a : Act} {w : World}
structure EntL (st st' : St) : Prop where
  tm : ∀ t, AvLe (gt st.tm t) (gt st'.tm t)
  own : ∀ b k, og st'.own b = some k → ∃ k0, og st.own b = some k0 ∧ BlkLe k0 k
  cl : closedB st' = true
theorem Ent.l (e : Ent st st') : EntL st st' := ⟨e.tm.get, fun _ _ h => e.own.get h, e.cl⟩
theorem EntL.dom (e : EntL st st') {b : Nat} (hb : (og st'.own b).isSome = true) : (og st.own b).isSome = true := by
  obtain ⟨k, hk⟩ := Option.isSome_iff_exists.1 hb
  obtain ⟨k0, h0, _⟩ := e.own b k hk
  rw [h0]; rfl
def Fix.fo (F : Fix) (ρ : Nat → Value) (st st' : St) : Fix := { F with O := fun k => F.O k ∨ ∃ b, (og st.own b).isSome = true ∧ og st'.own b = none ∧ vblk (ρ b) = some k }
theorem mt_fo (e : EntL st st') (k : Nat) : Mt (F.fo ρ st st') ρ st'.own k ↔ Mt F ρ st.own k := by
  constructor
  · rintro ((h | ⟨b, h1, _, h3⟩) | ⟨b, h1, h2⟩)
    · exact .inl h
    · exact .inr ⟨b, h1, h3⟩
    · exact .inr ⟨b, e.dom h1, h2⟩
  · rintro (h | ⟨b, h1, h2⟩)
    · exact .inl (.inl h)
    · cases hb : og st'.own b with
      | none => exact .inl (.inr ⟨b, h1, hb, h2⟩)
      | some k => exact .inr ⟨b, by rw [hb]; rfl, h2⟩
theorem SatE.entG (h : SatE F ρ st a w) (e : EntL st st') (F' : Fix) (hG : F'.G = F.G) (hn : F'.nt = F.nt) (hw0 : F'.w0 = F.w0)
    (hdis : ∀ b k, (og st'.own b).isSome = true → vblk (ρ b) = some k → ¬ F'.O k) (hoo : ∀ k, F'.O k → k < w.heap.size ∧ ∀ c e f, w.heap[k]? = some (.cells c e f) → NoU c.toList)
    (hMe : ∀ w', Ext (Mt F' ρ st'.own) w w' → Ext (Mt F ρ st.own) w w') : SatE F' ρ st' a w := by
  have hc := e.cl
  unfold closedB at hc
  rw [Bool.and_eq_true] at hc
  refine ⟨h.dfr, h.nt.trans hn.symm, fun t ρ' w' k1 k2 => ?_, fun b k hk => ?_, fun b b' k h1 h2 => h.inj b b' k (e.dom h1) (e.dom h2), fun b k h1 => by rw [hw0]; exact h.base b k (e.dom h1), hdis, by rw [hw0]; exact h.below, fun ρ' w' k1 k2 => by rw [hG]; exact h.gl ρ w' (Agr.refl _ _) (hMe w' k2), hoo⟩
  · exact avB_at k1 (gt_mem (p := avB st'.own) hc.1 rfl) ((e.tm t).h ρ w' _ (h.tm t ρ w' (Agr.refl _ _) (hMe w' k2)))
  · obtain ⟨k0, h0, hle⟩ := e.own b k hk
    have hb := og_mem (p := blkB st'.own) hc.2 hk
    have hA := hle.h w _ (fun l u => Rob F ρ st.own w fun ρ' w' => l.at ρ' w' u) _ (fun l l' u hl ho hr ρ' w' k1 k2 => hl.h ρ' w' u ho (hr ρ' w' k1 k2)) (h.own b k0 h0)
    cases k with
    | st ls =>
      obtain ⟨g, c, ee, q1, q2, q3, q4⟩ := hA
      refine ⟨g, c, ee, q1, q2, CellsR.unrob fun ρ' w' k1 k2 => ?_, q4⟩
      exact cellsB_at k1 hb (q3.rob ρ w' (Agr.refl _ _) (hMe w' k2))
    | rw kk ee u α mk Z n =>
      rcases hA with hA | ⟨g, cap, c, q1, q2, q3, q4, q5, q6, q7⟩
      · exact .inl hA
      · refine .inr ⟨g, cap, c, q1, q2, q3, q4, q5, q6, fun i j hi hj => ?_⟩
        obtain ⟨pp, x, x1, x2, x3⟩ := q7 i j hi hj
        exact ⟨pp, x, x1, x2, fun ρ' w' k1 k2 => pureL_at pp (x3 ρ w' (Agr.refl _ _) (hMe w' k2))⟩
theorem SatE.entL (h : SatE F ρ st a w) (e : EntL st st') : SatE F ρ st' a w := by
  have hM : ∀ k, Mt F ρ st'.own k → Mt F ρ st.own k := fun k hm => by
    rcases hm with ho | ⟨b, hb, hk⟩
    · exact .inl ho
    · exact .inr ⟨b, e.dom hb, hk⟩
  exact h.entG e F rfl rfl rfl (fun b k h1 => h.dis b k (e.dom h1)) h.oo fun w' hx => hx.mono fun k _ => hM k
theorem SatE.ent (h : SatE F ρ st a w) (e : Ent st st') : SatE F ρ st' a w := h.entL e.l
theorem SatE.entO (h : SatE F ρ st a w) (e : EntL st st') : SatE (F.fo ρ st st') ρ st' a w := by
  refine h.entG e _ rfl rfl rfl (fun b k h1 hk ho => ?_) (fun k ho => ?_) fun w' hx => hx.mono fun k _ hm => (mt_fo e k).1 hm
  · rcases ho with ho | ⟨c, c1, c2, c3⟩
    · exact h.dis b k (e.dom h1) hk ho
    · have := h.inj b c k (e.dom h1) c1 hk c3
      subst this
      rw [c2] at h1
      cases h1
  · rcases ho with ho | ⟨c, c1, c2, c3⟩
    · exact h.oo k ho
    · obtain ⟨kc, hkc⟩ := Option.isSome_iff_exists.1 c1
      have hA := h.own c kc hkc
      refine ⟨hA.lt c3, fun cc ee f hc => ?_⟩
      cases kc with
      | st ls =>
        obtain ⟨g, c', e', q1, q2, q3, q4⟩ := hA
        rw [q1] at c3
        cases c3
        rw [q2] at hc
        cases hc
        exact q4
      | rw kk ee u α mk Z n =>
        rcases hA with ⟨q1, _⟩ | ⟨g, cap, c', q1, q2, q3, q4, q5, q6, q7⟩
        · rw [q1] at c3; cases c3
        · rw [q1] at c3
          cases c3
          rw [q2] at hc
          cases hc
          exact q6
theorem SatE.congr (h : SatE F ρ st a w) (ht : ∀ t, gt st'.tm t = gt st.tm t) (ho : ∀ b, og st'.own b = og st.own b) : SatE F ρ st' a w := by
  have hA : ∀ {ρ'}, Agr st'.own ρ ρ' → Agr st.own ρ ρ' := fun h b hb => h b (by rw [ho]; exact hb)
  have hM : ∀ {w'}, Ext (Mt F ρ st'.own) w w' → Ext (Mt F ρ st.own) w w' := fun hx => hx.mono fun k _ hm => by
    rcases hm with h | ⟨b, h1, h2⟩
    · exact .inl h
    · exact .inr ⟨b, by rw [← ho]; exact h1, h2⟩
  refine ⟨h.dfr, h.nt, fun t ρ' w' k1 k2 => by rw [ht]; exact h.tm t ρ' w' (hA k1) (hM k2), fun b k hk => ?_, fun b b' k h1 h2 => h.inj b b' k (by rw [← ho]; exact h1) (by rw [← ho]; exact h2), fun b k h1 => h.base b k (by rw [← ho]; exact h1), fun b k h1 => h.dis b k (by rw [← ho]; exact h1), h.below, fun ρ' w' k1 k2 => h.gl ρ' w' (hA k1) (hM k2), h.oo⟩
  rw [ho] at hk
  exact (h.own b k hk).mono (fun _ _ => rfl) fun l u hr ρ' w' k1 k2 => hr ρ' w' (hA k1) (hM k2)
end
end Go.VG

/- States in letters: a block that is written no more; stores, appends and calls of whatever kind. -/
namespace Go.VG
open Go Go.RowKit

def frzLeaf (b : Nat) (k : Blk) : Leaf → Leaf
  | .row c => bif Nat.beq c b then (match k with
    | .rw kk _ _ α mk Z n => .sl kk α mk Z n
    | _ => .any) else .row c
  | .loc c o => bif Nat.beq c b then (match k with
    | .st ls => .ptr (ls.length - o) fun j => getL ls (o + j)
    | _ => .any) else .loc c o
  | .rl c k' i j => bif Nat.beq c b then .any else .rl c k' i j
  | .rs c k' l m V => bif Nat.beq c b then (match k with
    | .rw kk _ _ α mk Z _ => bif Nat.beq k' kk then .sl kk α mk (shiftZ α Z l) m else .any
    | _ => .any) else .rs c k' l m V
  | .fn f bs => bif bs.any fun c => Nat.beq c b then .any else .fn f bs
  | l => l
def frzV1 (b : Nat) (k : Blk) : V1 → V1
  | .c l => .c (frzLeaf b k l)
  | .agg ls => .agg (ls.map (frzLeaf b k))
def frzAV (b : Nat) (k : Blk) : AV → AV
  | .any => .any
  | .v a => .v (frzV1 b k a)
  | .tup ts => .tup (ts.map (frzV1 b k))
def frzBlk (b : Nat) (k : Blk) : Blk → Blk
  | .st ls => .st (ls.map (frzLeaf b k))
  | k' => k'
def frz (b : Nat) (k : Blk) (st : St) : St :=
  { tm := st.tm.map fun p => (p.1, frzAV b k p.2), own := (oerase st.own b).map fun p => (p.1, frzBlk b k p.2), nx := st.nx }
def pureBlk (k : Blk) : Bool :=
  match k with
  | .st ls => ls.all pureL
  | .rw .. => true
theorem gt_map (f : AV → AV) (h0 : f .any = .any) : ∀ (l : List (Nat × AV)) (t : Nat), gt (l.map fun p => (p.1, f p.2)) t = f (gt l t)
  | [], _ => h0.symm
  | (k, a) :: l, t => by
    rw [List.map_cons, gt_cons, gt_cons, gt_map f h0 l t]
    split <;> rfl
theorem og_map (f : Blk → Blk) : ∀ (l : List (Nat × Blk)) (t : Nat), og (l.map fun p => (p.1, f p.2)) t = (og l t).map f
  | [], _ => rfl
  | (k, a) :: l, t => by
    rw [List.map_cons, og_cons, og_cons, og_map f l t]
    split <;> rfl
section
variable {F : Fix} {ρ : Nat → Value} {st : St} {a : Act} {w : World}
theorem frz_agr {own : List (Nat × Blk)} {b : Nat} {ρ ρ' : Nat → Value} (h : ∀ c, c ≠ b → (og own c).isSome = true → ρ' c = ρ c) : Agr own ρ (fun c => if c = b then ρ b else ρ' c) := fun c hc => by
  show (if c = b then ρ b else ρ' c) = ρ c
  split
  · next e => rw [e]
  · next e => exact h c e hc
theorem frz_leaf (hs : SatE F ρ st a w) {b : Nat} {k : Blk} (hb : og st.own b = some k) (hp : pureBlk k = true) {l : Leaf} {v : Value} (_ : v.oneCell' = true) (h : Rob F ρ st.own w fun ρ' w' => l.at ρ' w' v)
    {ρ' : Nat → Value} {w' : World} (h1 : ∀ c, c ≠ b → (og st.own c).isSome = true → ρ' c = ρ c) (hx : Ext (Mt F ρ st.own) w w') (hk : ∀ g, vblk (ρ b) = some g → w'.heap[g]? = w.heap[g]?) : (frzLeaf b k l).at ρ' w' v := by
  have h0 := h _ w' (frz_agr h1) hx
  cases l with
  | any => trivial
  | x u => exact h0
  | p φ => exact h0
  | ptr k f => exact h0
  | sl k α mk Z n => exact h0
  | rl c k' i j =>
    show (bif Nat.beq c b then Leaf.any else .rl c k' i j).at ρ' w' v
    by_cases hc : c = b
    · rw [nbeq_t hc]; trivial
    · rw [nbeq_f hc]
      have : v = locV (if c = b then ρ b else ρ' c) (i * k' + j) := h0
      rw [if_neg hc] at this
      exact this
  | fn f bs =>
    show (bif bs.any fun c => Nat.beq c b then Leaf.any else .fn f bs).at ρ' w' v
    cases hbs : (bs.any fun c => Nat.beq c b) with
    | true => trivial
    | false =>
      show v = _
      have e : v = .func (.func f) #[] (bs.map fun c => locV (if c = b then ρ b else ρ' c) 0).toArray := h0
      rw [e]
      congr 2
      refine List.map_congr_left fun c hc => ?_
      rw [if_neg]
      rintro rfl
      rw [List.any_eq_false] at hbs
      exact hbs c hc (Nat.beq_refl c)
  | loc c o =>
    by_cases hc : c = b
    · subst hc
      have e : v = locV (ρ c) o := h.now
      show (bif Nat.beq c c then _ else _ : Leaf).at ρ' w' v
      rw [nbeq_t rfl]
      cases k with
      | rw => trivial
      | st ls =>
        obtain ⟨g, cc, ee, q1, q2, q3, _⟩ := hs.own c _ hb
        rw [q1, locV_ptr] at e
        refine ⟨g, o, e, fun j hj => ?_⟩
        have hlen := q3.len
        have hlt : o + j < cc.toList.length := by omega
        obtain ⟨l, l1, l2, l3⟩ := q3.get (List.getElem?_eq_getElem hlt)
        refine ⟨cc.toList[o + j], ?_, l2, fun r => ?_⟩
        · have hh := hk g (by rw [q1]; rfl)
          simp only [World.cell?, hh, q2]
          have : o + j < cc.size := by simpa using hlt
          simp [this]
        · have hg : getL ls (o + j) = l := by unfold getL; rw [l1]
          show (getL ls (o + j)).at r w' _
          rw [hg]
          exact pureL_at (List.all_eq_true.1 hp _ (List.mem_of_getElem? l1)) (l3 ρ w' (Agr.refl _ _) hx)
    · show (bif Nat.beq c b then _ else Leaf.loc c o).at ρ' w' v
      rw [nbeq_f hc]
      have : v = locV (if c = b then ρ b else ρ' c) o := h0
      rw [if_neg hc] at this
      exact this
  | rs c k' l m V =>
    by_cases hc : c = b
    · subst hc
      obtain ⟨e, e1, e2, _⟩ := h.now
      show (bif Nat.beq c c then _ else _ : Leaf).at ρ' w' v
      rw [nbeq_t rfl]
      cases k with
      | st => trivial
      | rw kk ee u α mk Z n =>
        show (bif Nat.beq k' kk then Leaf.sl kk α mk (shiftZ α Z l) m else .any).at ρ' w' v
        by_cases hkk : k' = kk
        · subst hkk
          rw [nbeq_t rfl]
          rcases hs.own c _ hb with ⟨q1, rfl⟩ | ⟨g, cap, cc, q1, q2, q3, q4, q5, q6, q7⟩
          · rw [q1] at e2
            change l + m ≤ 0 at e2
            omega
          · rw [q1] at e e2
            change l + m ≤ n at e2
            refine ⟨some ⟨g, l * k', none⟩, cap - l, e, by omega, (fun q => by cases q), fun g' off sp q => ?_⟩
            cases q
            refine ⟨rfl, fun i j hi hj => ?_⟩
            obtain ⟨pp, x, x1, x2, x3⟩ := q7 (l + i) j (by omega) hj
            have hh := hk g (by rw [q1]; rfl)
            refine ⟨x, ?_, x2, fun r => pureL_at pp (x3 ρ w' (Agr.refl _ _) hx)⟩
            rw [show l * k' + (i * k' + j) = (l + i) * k' + j by rw [Nat.add_mul]; omega]
            simp only [World.cell?, hh, q2]
            simpa using x1
        · rw [nbeq_f hkk]; trivial
    · show (bif Nat.beq c b then _ else Leaf.rs c k' l m V).at ρ' w' v
      rw [nbeq_f hc]
      have h2 : v = subV (if c = b then ρ b else ρ' c) (l * k') l m ∧ 1 ≤ m ∧ l + m ≤ lenV (if c = b then ρ b else ρ' c) ∧ V v := h0
      rw [if_neg hc] at h2
      exact h2
  | row c =>
    by_cases hc : c = b
    · subst hc
      have e : v = ρ c := h.now.2
      show (bif Nat.beq c c then _ else _ : Leaf).at ρ' w' v
      rw [nbeq_t rfl]
      cases k with
      | st => trivial
      | rw kk ee u α mk Z n =>
        rcases hs.own c _ hb with ⟨q1, rfl⟩ | ⟨g, cap, cc, q1, q2, q3, q4, q5, q6, q7⟩
        · exact ⟨none, 0, e.trans q1, Nat.le_refl _, fun _ => rfl, fun _ _ _ q => by cases q⟩
        · refine ⟨_, cap, e.trans q1, q3, (fun q => by cases q), fun g' off sp q => ?_⟩
          cases q
          refine ⟨rfl, fun i j hi hj => ?_⟩
          obtain ⟨pp, x, x1, x2, x3⟩ := q7 i j hi hj
          have hh := hk g (by rw [q1]; rfl)
          exact ⟨x, by simp only [World.cell?, hh, q2]; simpa using x1, x2, fun r => pureL_at pp (x3 ρ w' (Agr.refl _ _) hx)⟩
    · show (bif Nat.beq c b then _ else Leaf.row c).at ρ' w' v
      rw [nbeq_f hc]
      have : nou v = true ∧ v = (if c = b then ρ b else ρ' c) := h0
      rw [if_neg hc] at this
      exact this
theorem frz_cells (hs : SatE F ρ st a w) {b : Nat} {k : Blk} (hb : og st.own b = some k) (hp : pureBlk k = true) {ρ' : Nat → Value} {w' : World} (h1 : ∀ c, c ≠ b → (og st.own c).isSome = true → ρ' c = ρ c) (hx : Ext (Mt F ρ st.own) w w') (hk : ∀ g, vblk (ρ b) = some g → w'.heap[g]? = w.heap[g]?) :
    ∀ {ls : List Leaf} {us : List Value}, CellsR (fun l u => Rob F ρ st.own w fun ρ' w' => l.at ρ' w' u) ls us → CellsR (Leaf.at ρ' w') (ls.map (frzLeaf b k)) us
  | [], [], _ => trivial
  | _ :: _, _ :: _, ⟨⟨q1, q2⟩, q3⟩ => ⟨⟨q1, frz_leaf hs hb hp q1 q2 h1 hx hk⟩, frz_cells hs hb hp h1 hx hk q3⟩
  | [], _ :: _, h => h.elim
  | _ :: _, [], h => h.elim
theorem frz_v1 (hs : SatE F ρ st a w) {b : Nat} {k : Blk} (hb : og st.own b = some k) (hp : pureBlk k = true) {ρ' : Nat → Value} {w' : World} (h1 : ∀ c, c ≠ b → (og st.own c).isSome = true → ρ' c = ρ c) (hx : Ext (Mt F ρ st.own) w w') (hk : ∀ g, vblk (ρ b) = some g → w'.heap[g]? = w.heap[g]?)
    {v1 : V1} {v : Value} (h : Rob F ρ st.own w fun ρ' w' => v1.at ρ' w' v) : (frzV1 b k v1).at ρ' w' v := by
  cases v1 with
  | c l => exact ⟨h.now.1, frz_leaf hs hb hp h.now.1 (fun r w2 q1 q2 => (h r w2 q1 q2).2) h1 hx hk⟩
  | agg ls =>
    obtain ⟨cs, e, _⟩ := h.now
    refine ⟨cs, e, frz_cells hs hb hp h1 hx hk (CellsR.unrob fun r w2 q1 q2 => ?_)⟩
    obtain ⟨cs', e', hc'⟩ := h r w2 q1 q2
    rw [e] at e'
    have : cs = cs' := by simpa using e'
    subst this
    exact hc'
theorem frz_av (hs : SatE F ρ st a w) {b : Nat} {k : Blk} (hb : og st.own b = some k) (hp : pureBlk k = true) {ρ' : Nat → Value} {w' : World} (h1 : ∀ c, c ≠ b → (og st.own c).isSome = true → ρ' c = ρ c) (hx : Ext (Mt F ρ st.own) w w') (hk : ∀ g, vblk (ρ b) = some g → w'.heap[g]? = w.heap[g]?)
    {av : AV} {v : Value} (h : Rob F ρ st.own w fun ρ' w' => av.at ρ' w' v) : (frzAV b k av).at ρ' w' v := by
  cases av with
  | any => trivial
  | v v1 => exact frz_v1 hs hb hp h1 hx hk h
  | tup ts =>
    obtain ⟨vs, e, hv0⟩ := h.now
    clear hv0
    refine ⟨vs, e, ?_⟩
    have h' : Rob F ρ st.own w fun ρ' w' => TupR (V1.at ρ' w') ts vs := fun r w2 q1 q2 => by
      obtain ⟨vs', e', hc'⟩ := h r w2 q1 q2
      rw [e] at e'
      have : vs = vs' := by simpa using e'
      subst this
      exact hc'
    clear h e
    induction ts generalizing vs with
    | nil => cases vs with
      | nil => trivial
      | cons => exact h'.now.elim
    | cons t ts ih => cases vs with
      | nil => exact h'.now.elim
      | cons u us => exact ⟨frz_v1 hs hb hp h1 hx hk fun r w2 q1 q2 => (h' r w2 q1 q2).1, ih us fun r w2 q1 q2 => (h' r w2 q1 q2).2⟩
theorem SatE.frz (hs : SatE F ρ st a w) {b : Nat} {k : Blk} (hb : og st.own b = some k) (hp : pureBlk k = true) : SatE F ρ (frz b k st) a w := by
  have hog : ∀ c, og (VG.frz b k st).own c = if c = b then none else (og st.own c).map (frzBlk b k) := fun c => by
    show og ((oerase st.own b).map fun p => (p.1, frzBlk b k p.2)) c = _
    rw [og_map, og_oerase]
    split <;> rfl
  have hdom : ∀ c, (og (VG.frz b k st).own c).isSome = true → c ≠ b ∧ (og st.own c).isSome = true := fun c hc => by
    rw [hog] at hc
    split at hc
    · cases hc
    · next h => exact ⟨h, by simpa using hc⟩
  have hdom' : ∀ c, c ≠ b → (og st.own c).isSome = true → (og (VG.frz b k st).own c).isSome = true := fun c hc h => by
    rw [hog, if_neg hc]
    simpa using h
  have hx : ∀ {w'}, Ext (Mt F ρ (VG.frz b k st).own) w w' → Ext (Mt F ρ st.own) w w' := fun hx => hx.mono fun i _ hm => by
    rcases hm with ho | ⟨c, hc, hk⟩
    · exact .inl ho
    · exact .inr ⟨c, (hdom c hc).2, hk⟩
  have hkeep : ∀ {w'}, Ext (Mt F ρ (VG.frz b k st).own) w w' → ∀ g, vblk (ρ b) = some g → w'.heap[g]? = w.heap[g]? := fun hx g hg => by
    refine hx.keep g ((hs.own b k hb).lt hg) ?_
    rintro (ho | ⟨c, hc, hk⟩)
    · exact hs.dis b g (by rw [hb]; rfl) hg ho
    · obtain ⟨h1, h2⟩ := hdom c hc
      exact h1 (hs.inj c b g h2 (by rw [hb]; rfl) hk hg)
  have hagr : ∀ {ρ'}, Agr (VG.frz b k st).own ρ ρ' → ∀ c, c ≠ b → (og st.own c).isSome = true → ρ' c = ρ c := fun ha c h1 h2 => ha c (hdom' c h1 h2)
  refine ⟨hs.dfr, hs.nt, fun t ρ' w' k1 k2 => ?_, fun c kc hc => ?_, fun c c' i h1 h2 => hs.inj c c' i (hdom c h1).2 (hdom c' h2).2, fun c i h1 => hs.base c i (hdom c h1).2, fun c i h1 => hs.dis c i (hdom c h1).2, hs.below, fun ρ' w' k1 k2 => hs.gl ρ w' (Agr.refl _ _) (hx k2), hs.oo⟩
  · rw [show (VG.frz b k st).tm = st.tm.map fun p => (p.1, frzAV b k p.2) from rfl, gt_map _ rfl]
    exact frz_av hs hb hp (hagr k1) (hx k2) (hkeep k2) (hs.tm t)
  · rw [hog] at hc
    split at hc
    · cases hc
    · next hne =>
      cases hcc : og st.own c with
      | none => rw [hcc] at hc; cases hc
      | some k0 =>
        rw [hcc] at hc
        cases hc
        have hA := hs.own c k0 hcc
        cases k0 with
        | st ls =>
          obtain ⟨g, cs, ee, q1, q2, q3, q4⟩ := hA
          exact ⟨g, cs, ee, q1, q2, CellsR.unrob fun ρ' w' k1 k2 => frz_cells hs hb hp (hagr k1) (hx k2) (hkeep k2) q3, q4⟩
        | rw kk ee u α mk Z n =>
          refine hA.mono' fun i j x hi hj pp hr ρ' w' k1 k2 => pureL_at pp (hr ρ w' (Agr.refl _ _) (hx k2))
end
end Go.VG

/- States in letters: stores, appends, calls of whatever kind; operations one behind the other. -/
namespace Go.VG
open Go Go.RowKit

def frzs : List Nat → St → Option St
  | [], st => some st
  | b :: l, st => match og st.own b with
    | some k => match pureBlk k with
      | true => frzs l (frz b k st)
      | false => none
    | none => none
theorem frzs_sat {F : Fix} {ρ : Nat → Value} {a : Act} {w : World} : ∀ {l : List Nat} {st st' : St}, frzs l st = some st' → SatE F ρ st a w → SatE F ρ st' a w
  | [], st, st', h, hs => by cases h; exact hs
  | b :: l, st, st', h, hs => by
    rw [frzs] at h
    split at h
    · next k hb =>
      split at h
      · next hp => exact frzs_sat h (hs.frz hb hp)
      · cases h
    · cases h
def namesL : List Leaf → List Nat
  | [] => []
  | .row b :: l => b :: namesL l
  | .rs b _ _ _ _ :: l => b :: namesL l
  | .loc b _ :: l => b :: namesL l
  | _ :: l => namesL l
def namesP (st : St) : List (Nat × Operand) → List Nat
  | [] => []
  | p :: l => match leaves (ev st p.2) with
    | some ls => namesL ls ++ namesP st l
    | none => namesP st l
def rowsL (own : List (Nat × Blk)) : List Leaf → List Nat
  | [] => []
  | .row b :: l => bif (og own b).isSome then b :: rowsL own l else rowsL own l
  | .rs b _ _ _ _ :: l => bif (og own b).isSome then b :: rowsL own l else rowsL own l
  | _ :: l => rowsL own l
def rowsA (own : List (Nat × Blk)) : List AV → List Nat
  | [] => []
  | a :: l => match leaves a with
    | some ls => rowsL own ls ++ rowsA own l
    | none => rowsA own l
structure Fnx where
  nt : Nat
  hints : List (Nat × Nat)
  eff : List FuncId
def stLeaves (ls : List Leaf) (o : Nat) (l : List Leaf) : List Leaf := ls.take o ++ l ++ ls.drop (o + l.length)
structure RowSet (α : Type) (k : Nat) (mk : α → Nat → Leaf) (ls : List Leaf) (K : α → Prop) : Prop where
  w : ∃ z, ls = tab k (mk z) 0 ∧ K z
def setZ (α : Type) (Z : Nat → α) (i : Nat) (z : α) : Nat → α := fun j => if j = i then z else Z j
def appZ (α : Type) (Z Y : Nat → α) (n : Nat) : Nat → α := fun j => if j < n then Z j else Y (j - n)
def pureN (l : Leaf) : Bool := pureL l && leafNou l
theorem pureN_l {l : Leaf} (h : pureN l = true) : pureL l = true := by unfold pureN at h; rw [Bool.and_eq_true] at h; exact h.1
structure AppOb (k : Nat) (α : Type) (mk : α → Nat → Leaf) (β : Type) (mk' : β → Nat → Leaf) (Y : Nat → β) (m : Nat) (K : (Nat → α) → Prop) : Prop where
  w : ∃ Y' : Nat → α, (∀ i j, i < m → j < k → LeafLe (mk' (Y i) j) (mk (Y' i) j)) ∧ (∀ i j, i < m → j < k → pureN (mk (Y' i) j) = true) ∧ K Y'
structure AppNil (k : Nat) (β : Type) (mk' : β → Nat → Leaf) (Y : Nat → β) (m : Nat) (K : (α : Type) → (α → Nat → Leaf) → (Nat → α) → Prop) : Prop where
  w : ∃ (α : Type) (mk : α → Nat → Leaf) (Y' : Nat → α), (∀ i j, i < m → j < k → LeafLe (mk' (Y i) j) (mk (Y' i) j)) ∧ (∀ i j, i < m → j < k → pureN (mk (Y' i) j) = true) ∧ K α mk Y'
structure CallT (C : Ctx) (nt : Nat) (st : St) (f : FuncId) (args : List AV) (d : Option Nat) (K : St → Prop) : Prop where
  ok : CallOk C.P f
  w : ∀ (F : Fix) (ρ : Nat → Value) (a : Act) (w : World) (vs : List Value), F.G = C.G → F.nt = nt → SatE F ρ st a w → (Rob F ρ st.own w fun ρ' w' => ArgsR (AV.at ρ' w') args vs) →
    Calls C.P f vs.toArray w fun e w' => ∃ v st', e = .returned v ∧ K st' ∧ Sat F st' (a.put d v) w'
def scrubL (b : Nat) : Leaf → Leaf
  | .row c => bif Nat.beq c b then .any else .row c
  | .loc c o => bif Nat.beq c b then .any else .loc c o
  | .rl c k i j => bif Nat.beq c b then .any else .rl c k i j
  | .rs c k l m V => bif Nat.beq c b then .any else .rs c k l m V
  | .fn f bs => bif bs.any fun c => Nat.beq c b then .any else .fn f bs
  | l => l
def scrubV1 (b : Nat) : V1 → V1
  | .c l => .c (scrubL b l)
  | .agg ls => .agg (ls.map (scrubL b))
def scrubAV (b : Nat) : AV → AV
  | .any => .any
  | .v a => .v (scrubV1 b a)
  | .tup ts => .tup (ts.map (scrubV1 b))
def scrubBlk (b : Nat) : Blk → Blk
  | .st ls => .st (ls.map (scrubL b))
  | k => k
def appSt (st : St) (b : Nat) (d : Option Nat) (k : Blk) : St :=
  { tm := match d with
      | some d => (d, .v (.c (.row st.nx))) :: st.tm.map fun p => (p.1, scrubAV b p.2)
      | none => st.tm.map fun p => (p.1, scrubAV b p.2)
    own := (st.nx, k) :: (oerase st.own b).map fun p => (p.1, scrubBlk b p.2)
    nx := st.nx + 1 }
def vcApp (C : Ctx) (st : St) (d : Option Nat) (s x : AV) (t : TypeId) (K : St → Prop) : Prop :=
  match tg C.tys t with
  | some ⟨.slice e, _, _, _⟩ => match tg C.tys e with
    | some dd => match x with
      | .v (.c (.sl k' β mk' Y m)) => guardB (Nat.beq k' dd.size && Nat.ble 1 dd.size && Nat.ble dd.bytes 256 && Nat.beq dd.zero.length dd.size && dd.zero.all nou && dd.zero.all Value.oneCell' && (og st.own st.nx).isNone) (match s with
        | .v (.c (.row b)) => match og st.own b with
          | some (.rw k e' u α mk Z n) => guardB (Nat.beq k dd.size && Nat.beq e' e && !u) (Ob (n + m ≤ 274877906944) (AppOb k α mk β mk' Y m fun Y' => K (appSt st b d (.rw k e' u α mk (appZ α Z Y' n) (n + m)))))
          | _ => False
        | .v (.c (.x (.slice none 0 0))) => Ob (1 ≤ m ∧ m ≤ 274877906944) (AppNil k' β mk' Y m fun α mk Y' => K (st.add d ⟨.v (.c (.row st.nx)), some (st.nx, .rw k' e false α mk Y' m)⟩))
        | _ => False)
      | _ => False
    | none => False
  | _ => False
def vcE (C : Ctx) (N : Fnx) (st : St) (o : Oper) (K : St → Prop) : Prop :=
  match o.op with
  | .store t x y => match tg C.tys t with
    | some d => match leaves (ev st y) with
      | some l => guardB (l.all leafNou && Nat.beq l.length d.size) (match ev st x with
        | .v (.c (.loc b o)) => match og st.own b with
          | some (.st ls) => guardB (Nat.ble (o + l.length) ls.length) (K { st with own := oset st.own b (.st (stLeaves ls o l)) })
          | _ => False
        | .v (.c (.rl b k i 0)) => match og st.own b with
          | some (.rw k' e u α mk Z n) => guardB (Nat.beq k k' && Nat.beq l.length k && l.all pureL) (Ob (i < n) (RowSet α k mk l fun z => K { st with own := oset st.own b (.rw k e u α mk (setZ α Z i z) n) }))
          | _ => False
        | _ => False)
      | none => False
    | none => False
  | .call ⟨.builtin .append, args, ts⟩ => match args.toList, ts.toList with
    | [s, x], [t, t'] => guardB (Nat.beq t t' && dstOk N.nt o.dst) (vcApp C st o.dst (ev st s) (ev st x) t K)
    | _, _ => False
  | .call ⟨.value (.func f), args, _⟩ => guardB (dstOk N.nt o.dst) (match N.eff.any fun g => Nat.beq g f with
      | true => CallT C N.nt st f (args.toList.map (ev st)) o.dst K
      | false => match frzs (rowsA st.own (args.toList.map (ev st))) st with
        | some st => CallP C st f (args.toList.map (ev st)) fun r => K (st.add o.dst r)
        | none => False)
  | .buildSlice t n parts => match frzs (namesP st parts.toList) st with
    | some st => guardB (dstOk N.nt o.dst) (vc1 C st (.buildSlice t n parts) fun r => K (st.add o.dst r))
    | none => False
  | op => guardB (dstOk N.nt o.dst) (vc1 C st op fun r => K (st.add o.dst r))
def slotOf (ops : List Oper) (j : Nat) : Option Nat := (ops[j]?).bind (·.dst)
def vcG (C : Ctx) (N : Fnx) (ops : List Oper) (st : St) (o : Oper) (K : St → Prop) : Prop :=
  match o.guard with
  | none => vcE C N st o K
  | some (j, want) => match slotOf ops j with
    | some s => match gt st.tm s with
      | .v (.c (.x (.bool t))) => guardB (Nat.blt s N.nt && dstOk N.nt o.dst) (Cases t fun tb => bif tb == want then vcE C N { st with tm := (s, bool tb) :: st.tm } { o with guard := none } K
          else K (St.add { st with tm := (s, bool tb) :: st.tm } o.dst ⟨.tup [], none⟩))
      | .tup [] => guardB (Nat.blt s N.nt && dstOk N.nt o.dst) (K (st.add o.dst ⟨.tup [], none⟩))
      | _ => False
    | none => False
def vcSeq (C : Ctx) (N : Fnx) (ops : List Oper) : List Oper → St → (St → Prop) → Prop
  | [], st, K => K st
  | o :: l, st, K => vcG C N ops st o fun st' => vcSeq C N ops l st' K

def StepOp (C : Ctx) (N : Fnx) (ops : Array Oper) (st : St) (o : Oper) (K : St → Prop) : Prop :=
  ∀ (F : Fix) (a : Act) (w : World) (Q : Exit → Act → World → Prop), F.G = C.G → F.nt = N.nt → Sat F st a w → opWp C.P ops Q o (fun a' w' => ∃ st', K st' ∧ Sat F st' a' w') a w
section
variable {C : Ctx} {N : Fnx} {ops : Array Oper} {st : St} {F : Fix} {ρ : Nat → Value} {a : Act} {w : World} {K : St → Prop}
theorem step_pure {o : Oper} {r : Res} (hp : PureOp C ops st o r) (hd : dstOk N.nt o.dst = true) (hk : K (st.add o.dst r)) : StepOp C N ops st o K := by
  rintro F a w Q hG hN ⟨ρ, hs⟩
  refine opWp_mono ?_ (hp F ρ a w Q hG hs)
  rintro a' w' ⟨v, rfl, hm⟩
  exact ⟨_, hk, hs.add hm (by rw [hN]; exact hd)⟩
theorem step_run {o : Oper} (hg : o.guard = none) (h : ∀ (F : Fix) (ρ : Nat → Value) (a : Act) (w : World), F.G = C.G → F.nt = N.nt → SatE F ρ st a w →
    ∃ n w', (execOp a.eval o).run C.P w = .ok n w' ∧ ((n = .skip ∧ ∃ st', K st' ∧ Sat F st' (a.put o.dst undef) w') ∨ ∃ v, n = .value v ∧ ∃ st', K st' ∧ Sat F st' (a.put o.dst v) w')) : StepOp C N ops st o K := by
  rintro F a w Q hG hN ⟨ρ, hs⟩
  obtain ⟨n, w', h1, h2⟩ := h F ρ a w hG hN hs
  unfold opWp
  rw [if_pos (by simp [Region.wanted, hg])]
  left
  unfold Oper.wp
  rw [h1]
  rcases h2 with ⟨rfl, st', k1, k2⟩ | ⟨v, rfl, st', k1, k2⟩
  · exact ⟨st', k1, k2⟩
  · exact ⟨st', k1, k2⟩
theorem put_none (a : Act) (v : Value) : a.put none v = a := rfl
theorem step_store_st (hT : TysOk C.P C.tys) {o : Oper} {t : TypeId} {x y : Operand} {d : TyD} {b q : Nat} {l ls : List Leaf} (hg : o.guard = none) (ho : o.op = .store t x y) (hdst : o.dst = none) (ht : tg C.tys t = some d) (hl : leaves (ev st y) = some l)
    (h0 : (l.all leafNou && Nat.beq l.length d.size) = true) (hx : ev st x = .v (.c (.loc b q))) (hb : og st.own b = some (.st ls)) (h : guardB (Nat.ble (q + l.length) ls.length) (K { st with own := oset st.own b (.st (stLeaves ls q l)) })) : StepOp C N ops st o K := by
  obtain ⟨h1, h2⟩ := guardB_out h
  rw [Bool.and_eq_true] at h0
  have hlen := Nat.eq_of_beq_eq_true h0.2
  have hle := Nat.le_of_ble_eq_true h1
  refine step_run hg fun F ρ a w _ _ hs => ?_
  obtain ⟨g, c, e, q1, q2, q3, q4⟩ := hs.own b _ hb
  have hcl := q3.len
  have hcells : Rob F ρ st.own w fun ρ' w' => CellsR (Leaf.at ρ' w') l (a.eval y).cells.toList := fun ρ' w' k1 k2 => leaves_cells hl (hs.ev y ρ' w' k1 k2)
  have hyl := hcells.now.len
  have hsz : (a.eval y).cells.size = d.size := by rw [← hlen, ← hyl]; exact Array.length_toList.symm
  have hr := run_storeVar (tysOk_get hT ht) g q (a.eval y) w e c q2 hsz (by rw [Array.length_toList] at hcl; omega) hcells.now.one
  refine ⟨.skip, w.setRow g (c.toList.take q ++ (a.eval y).cells.toList ++ c.toList.drop (q + d.size)).toArray, by simp [execOp, ho, Instr.storeAt, Instr.sureAddr, ev_loc hs hx, q1, locV_ptr, hr], .inl ⟨rfl, _, h2, ρ, ?_⟩⟩
  rw [hdst, put_none]
  have hnew : CellsR (fun l u => Rob F ρ st.own w fun ρ' w' => l.at ρ' w' u) (stLeaves ls q l) (c.toList.take q ++ (a.eval y).cells.toList ++ c.toList.drop (q + d.size)) := by
    unfold stLeaves
    rw [hlen]
    exact cellsR_append (cellsR_append (cellsR_take q q3) (CellsR.unrob hcells)) (cellsR_drop _ q3)
  refine hs.write (by rw [hb]; rfl) (by rw [q1]; rfl) (by simp) (fun i hi => setRow_other w g i _ hi) rfl rfl rfl ?_
  refine ⟨g, _, e, q1, setRow_heap w g c _ e _ q2, ?_, ?_⟩
  · refine CellsR.mono ?_ (by simpa using hnew)
    intro l' u hr'
    exact hr'.oset (by rw [hb]; rfl) (by rw [q1]; rfl) (by simp) (fun i hi => setRow_other w g i _ hi)
  · exact trivial
theorem tab_eq {α : Type} {mk : α → Nat → Leaf} {z : α} {k j : Nat} (hj : j < k) : (tab k (mk z) 0)[j]? = some (mk z j) := by
  have : ∀ (n : Nat) (f : Nat → Leaf) (s j : Nat), j < n → (tab n f s)[j]? = some (f (s + j)) := by
    intro n
    induction n with
    | zero => intro f s j h; omega
    | succ n ih =>
      intro f s j h
      rw [tab]
      cases j with
      | zero => rfl
      | succ j => rw [List.getElem?_cons_succ, ih f (s + 1) j (by omega)]; congr 2; omega
  rw [this k (mk z) 0 j hj, Nat.zero_add]
theorem step_store_rl (hT : TysOk C.P C.tys) {o : Oper} {t : TypeId} {x y : Operand} {d : TyD} {b k k' i n : Nat} {e : TypeId} {u : Bool} {α : Type} {mk : α → Nat → Leaf} {Z : Nat → α} {l : List Leaf} (hg : o.guard = none) (ho : o.op = .store t x y) (hdst : o.dst = none) (ht : tg C.tys t = some d) (hl : leaves (ev st y) = some l)
    (h0 : (l.all leafNou && Nat.beq l.length d.size) = true) (hx : ev st x = .v (.c (.rl b k i 0))) (hb : og st.own b = some (.rw k' e u α mk Z n))
    (h : guardB (Nat.beq k k' && Nat.beq l.length k && l.all pureL) (Ob (i < n) (RowSet α k mk l fun z => K { st with own := oset st.own b (.rw k e u α mk (setZ α Z i z) n) }))) : StepOp C N ops st o K := by
  obtain ⟨h1, h2⟩ := guardB_out h
  simp only [Bool.and_eq_true] at h0 h1
  obtain ⟨⟨h1, h3⟩, h4⟩ := h1
  obtain rfl := Nat.eq_of_beq_eq_true h1
  have hlk := Nat.eq_of_beq_eq_true h3
  have hlen := Nat.eq_of_beq_eq_true h0.2
  have hin := h2.a
  obtain ⟨z, hz, hk⟩ := h2.b.w
  refine step_run hg fun F ρ a w _ _ hs => ?_
  have hr0 : a.eval x = locV (ρ b) (i * k + 0) := (ev_rob hs hx).now.2
  rcases hs.own b _ hb with ⟨_, h⟩ | ⟨g, cap, c, q1, q2, q3, q4, q5, q6, q7⟩
  · omega
  have hcells : Rob F ρ st.own w fun ρ' w' => CellsR (Leaf.at ρ' w') l (a.eval y).cells.toList := fun ρ' w' k1 k2 => leaves_cells hl (hs.ev y ρ' w' k1 k2)
  have hyl := hcells.now.len
  have hsz : (a.eval y).cells.size = d.size := by rw [← hlen, ← hyl]; exact Array.length_toList.symm
  have hfit : i * k + d.size ≤ c.size := by
    have : (i + 1) * k ≤ cap * k := Nat.mul_le_mul_right _ (by omega)
    rw [Nat.add_mul] at this
    omega
  have hr := run_storeVar (tysOk_get hT ht) g (i * k) (a.eval y) w e c q2 hsz hfit hcells.now.one
  refine ⟨.skip, w.setRow g (c.toList.take (i * k) ++ (a.eval y).cells.toList ++ c.toList.drop (i * k + d.size)).toArray, by simp [execOp, ho, Instr.storeAt, Instr.sureAddr, hr0, q1, locV_sl, hr], .inl ⟨rfl, _, hk, ρ, ?_⟩⟩
  rw [hdst, put_none]
  have hyn : (a.eval y).cells.toList.length = d.size := by rw [Array.length_toList]; exact hsz
  have hcn : c.toList.length = c.size := Array.length_toList
  refine hs.write (by rw [hb]; rfl) (by rw [q1]; rfl) (by simp) (fun i hi => setRow_other w g i _ hi) rfl rfl rfl ?_
  refine .inr ⟨g, cap, _, q1, setRow_heap w g c _ e _ q2, q3, q4, ?_, ?_, fun i' j hi' hj => ?_⟩
  · simp only [List.size_toArray, List.length_append, List.length_take, List.length_drop]
    omega
  · exact trivial
  · have hget : ∀ p, (c.toList.take (i * k) ++ (a.eval y).cells.toList ++ c.toList.drop (i * k + d.size)).toArray[p]? = if p < i * k then c[p]? else if p < i * k + d.size then (a.eval y).cells.toList[p - i * k]? else c[p]? := fun p => by
      rw [List.getElem?_toArray, List.append_assoc]
      have ht : (c.toList.take (i * k)).length = i * k := by rw [List.length_take]; omega
      by_cases hp : p < i * k
      · rw [if_pos hp, List.getElem?_append_left (by omega), List.getElem?_take, if_pos hp]
        simp
      · rw [if_neg hp, List.getElem?_append_right (by omega), ht]
        by_cases hp2 : p < i * k + d.size
        · rw [if_pos hp2, List.getElem?_append_left (by omega)]
        · rw [if_neg hp2, List.getElem?_append_right (by omega), hyn, List.getElem?_drop]
          rw [show i * k + d.size + (p - i * k - d.size) = p by omega]
          simp
    by_cases hii : i' = i
    · subst hii
      have hj2 : j < (a.eval y).cells.toList.length := by omega
      obtain ⟨l', l1, l2, l3⟩ := hcells.now.get (List.getElem?_eq_getElem hj2)
      have hlj : mk z j = l' := by
        rw [hz, tab_eq hj] at l1
        exact Option.some.inj l1
      have hsz' : setZ α Z i' z i' = z := if_pos rfl
      refine ⟨by rw [hsz', hlj]; exact List.all_eq_true.1 h4 _ (List.mem_of_getElem? l1), _, by rw [hget, if_neg (by omega), if_pos (by omega), show i' * k + j - i' * k = j by omega]; exact List.getElem?_eq_getElem hj2, l2, ?_⟩
      rw [hsz', hlj]
      have hcell : Rob F ρ st.own w fun ρ' w' => l'.at ρ' w' (a.eval y).cells.toList[j] := fun ρ' w' k1 k2 => by
        obtain ⟨l'', m1, m2, m3⟩ := (hcells ρ' w' k1 k2).get (List.getElem?_eq_getElem hj2)
        rw [l1] at m1
        cases m1
        exact m3
      exact hcell.oset (by rw [hb]; rfl) (by rw [q1]; rfl) (by simp) (fun i hi => setRow_other w g i _ hi)
    · obtain ⟨pp, x, x1, x2, x3⟩ := q7 i' j hi' hj
      have hsz' : setZ α Z i z i' = Z i' := if_neg hii
      refine ⟨by rw [hsz']; exact pp, x, ?_, x2, ?_⟩
      · rw [hget]
        by_cases hp : i' * k + j < i * k
        · rw [if_pos hp]; exact x1
        · rw [if_neg hp, if_neg, x1]
          have : i + 1 ≤ i' := by
            rcases Nat.lt_or_ge i' i with h | h
            · exfalso
              have : (i' + 1) * k ≤ i * k := Nat.mul_le_mul_right _ h
              rw [Nat.add_mul] at this
              omega
            · omega
          have : (i + 1) * k ≤ i' * k := Nat.mul_le_mul_right _ this
          rw [Nat.add_mul] at this
          omega
      · rw [hsz']
        exact x3.oset (by rw [hb]; rfl) (by rw [q1]; rfl) (by simp) (fun i hi => setRow_other w g i _ hi)
end
end Go.VG

/- States in letters: appends; operations one behind the other. -/
namespace Go.VG
open Go Go.RowKit
section
variable {C : Ctx} {N : Fnx} {ops : Array Oper} {st : St} {F : Fix} {ρ : Nat → Value} {a : Act} {w : World} {K : St → Prop}

theorem sl_cells {k m : Nat} {β : Type} {mk : β → Nat → Leaf} {Y : Nat → β} {own : List (Nat × Blk)} {v : Value} (h : Rob F ρ own w fun ρ' w' => (Leaf.sl k β mk Y m).at ρ' w' v) (hm : 1 ≤ m) (hk : 1 ≤ k) :
    ∃ (g off cap : Nat) (news : List Value), v = .slice (some ⟨g, off, none⟩) m cap ∧ news.length = m * k ∧ (∀ (j : Nat) (u : Value), news[j]? = some u → w.cell? ((⟨g, off, none⟩ : Addr).add j) = some u) ∧
      ∀ i j, i < m → j < k → ∃ u, news[i * k + j]? = some u ∧ u.oneCell' = true ∧ Rob F ρ own w fun _ w' => ∀ r, (mk (Y i) j).at r w' u := by
  obtain ⟨ad, cap, e, h0, h1, h2⟩ := h.now
  cases ad with
  | none => have := h1 rfl; omega
  | some ad =>
    obtain ⟨g, off, sp⟩ := ad
    obtain ⟨rfl, h3⟩ := h2 g off sp rfl
    have hall : Rob F ρ own w fun _ w' => ∀ i j, i < m → j < k → ∃ u, w'.cell? ⟨g, off + (i * k + j), none⟩ = some u ∧ u.oneCell' = true ∧ ∀ r, (mk (Y i) j).at r w' u := fun ρ' w' k1 k2 => by
      obtain ⟨ad', cap', e', _, _, h2'⟩ := h ρ' w' k1 k2
      rw [e] at e'
      cases e'
      exact (h2' g off none rfl).2
    have hkept : ∀ q, Rob F ρ own w fun _ w' => w'.cell? ⟨g, q, none⟩ = w.cell? ⟨g, q, none⟩ := fun q => cell_kept (o := off + (0 * k + 0)) fun ρ' w' k1 k2 => by
      obtain ⟨u, e, _⟩ := hall ρ' w' k1 k2 0 0 (by omega) (by omega)
      exact ⟨u, e⟩
    refine ⟨g, off, cap, (List.range (m * k)).map fun q => (w.cell? ⟨g, off + q, none⟩).getD undef, e, by simp, fun j u hj => ?_, fun i j hi hj => ?_⟩
    · have hlt : j < m * k := by
        rcases Nat.lt_or_ge j (m * k) with h | h
        · exact h
        · rw [List.getElem?_eq_none (by simpa using h)] at hj; cases hj
      obtain ⟨u', e1, _⟩ := h3 (j / k) (j % k) ((Nat.div_lt_iff_lt_mul (by omega)).2 hlt) (Nat.mod_lt _ (by omega))
      rw [Nat.div_add_mod'] at e1
      rw [List.getElem?_map, List.getElem?_range hlt, Option.map_some, e1] at hj
      rw [addr_add, e1]
      exact hj
    · have hlt : i * k + j < m * k := by
        have : (i + 1) * k ≤ m * k := Nat.mul_le_mul_right _ hi
        rw [Nat.add_mul] at this
        omega
      obtain ⟨u, e1, e2, e3⟩ := h3 i j hi hj
      refine ⟨u, by rw [List.getElem?_map, List.getElem?_range hlt, Option.map_some, e1]; rfl, e2, fun ρ' w' k1 k2 => ?_⟩
      obtain ⟨u', e1', e2', e3'⟩ := hall ρ' w' k1 k2 i j hi hj
      rw [hkept _ ρ' w' k1 k2, e1] at e1'
      cases e1'
      exact e3'
theorem scrub_leaf {b : Nat} {ρ3 ρ' : Nat → Value} (h : ∀ c, c ≠ b → ρ3 c = ρ' c) {l : Leaf} {w' : World} {v : Value} (hl : l.at ρ3 w' v) : (scrubL b l).at ρ' w' v := by
  cases l with
  | loc c o =>
    show (bif Nat.beq c b then Leaf.any else .loc c o).at ρ' w' v
    by_cases hc : c = b
    · rw [nbeq_t hc]; trivial
    · rw [nbeq_f hc]; show _ = _; rw [← h c hc]; exact hl
  | row c =>
    show (bif Nat.beq c b then Leaf.any else .row c).at ρ' w' v
    by_cases hc : c = b
    · rw [nbeq_t hc]; trivial
    · rw [nbeq_f hc]; exact ⟨hl.1, by rw [← h c hc]; exact hl.2⟩
  | rl c k i j =>
    show (bif Nat.beq c b then Leaf.any else .rl c k i j).at ρ' w' v
    by_cases hc : c = b
    · rw [nbeq_t hc]; trivial
    · rw [nbeq_f hc]; show _ = _; rw [← h c hc]; exact hl
  | rs c k l m V =>
    show (bif Nat.beq c b then Leaf.any else .rs c k l m V).at ρ' w' v
    by_cases hc : c = b
    · rw [nbeq_t hc]; trivial
    · rw [nbeq_f hc]; show _ = _ ∧ _ ∧ _ ∧ _; rw [← h c hc]; exact hl
  | fn f bs =>
    show (bif bs.any fun c => Nat.beq c b then Leaf.any else .fn f bs).at ρ' w' v
    cases hbs : (bs.any fun c => Nat.beq c b) with
    | true => trivial
    | false =>
      show v = _
      have e : v = .func (.func f) #[] (bs.map fun c => locV (ρ3 c) 0).toArray := hl
      rw [e]
      congr 2
      refine List.map_congr_left fun c hc => ?_
      rw [h c]
      rintro rfl
      rw [List.any_eq_false] at hbs
      exact hbs c hc (Nat.beq_refl c)
  | _ => exact hl
theorem scrub_cells {b : Nat} {ρ3 ρ' : Nat → Value} (h : ∀ c, c ≠ b → ρ3 c = ρ' c) {w' : World} : ∀ {ls : List Leaf} {us : List Value}, CellsR (Leaf.at ρ3 w') ls us → CellsR (Leaf.at ρ' w') (ls.map (scrubL b)) us
  | [], [], _ => trivial
  | _ :: _, _ :: _, ⟨⟨q1, q2⟩, q3⟩ => ⟨⟨q1, scrub_leaf h q2⟩, scrub_cells h q3⟩
  | [], _ :: _, h => h.elim
  | _ :: _, [], h => h.elim
theorem scrub_v1 {b : Nat} {ρ3 ρ' : Nat → Value} (h : ∀ c, c ≠ b → ρ3 c = ρ' c) {w' : World} {x : V1} {v : Value} (hx : x.at ρ3 w' v) : (scrubV1 b x).at ρ' w' v := by
  cases x with
  | c l => exact ⟨hx.1, scrub_leaf h hx.2⟩
  | agg ls => obtain ⟨cs, e, hc⟩ := hx; exact ⟨cs, e, scrub_cells h hc⟩
theorem scrub_av {b : Nat} {ρ3 ρ' : Nat → Value} (h : ∀ c, c ≠ b → ρ3 c = ρ' c) {w' : World} {x : AV} {v : Value} (hx : x.at ρ3 w' v) : (scrubAV b x).at ρ' w' v := by
  cases x with
  | any => trivial
  | v x => exact scrub_v1 h hx
  | tup ts =>
    obtain ⟨vs, e, hv⟩ := hx
    refine ⟨vs, e, ?_⟩
    clear e
    induction ts generalizing vs with
    | nil => cases vs with
      | nil => trivial
      | cons => exact hv.elim
    | cons t ts ih => cases vs with
      | nil => exact hv.elim
      | cons u us => exact ⟨scrub_v1 h hv.1, ih us hv.2⟩
theorem SatE.turn (hs : SatE F ρ st a w) {b : Nat} {k k' : Blk} {v' : Value} {w' : World} {d : Option Nat} (hb : og st.own b = some k) (hn : og st.own st.nx = none) (hd : dstOk F.nt d = true) (hone : v'.oneCell' = true) (hnou : nou v' = true)
    (hw : w.grownBy w' (vblk (ρ b))) (hv : ∀ g, vblk v' = some g → vblk (ρ b) = some g ∨ w.heap.size ≤ g)
    (hk : k'.At w' (fun l u => Rob F ρ st.own w fun ρ' w' => l.at ρ' w' u) v') (hkp : ∃ kk e u α mk Z n, k' = .rw kk e u α mk Z n) : Sat F (appSt st b d k') (a.put d v') w' := by
  have hsz := hw.size
  have hext : Ext (Mt F ρ st.own) w w' := ⟨hsz, fun i hi hm => hw.block i hi fun x => hm (.inr ⟨b, by rw [hb]; rfl, x.symm⟩)⟩
  have hnb : st.nx ≠ b := fun x => by rw [x, hb] at hn; cases hn
  have hogs : ∀ c, og (appSt st b d k').own c = if c = st.nx then some k' else if c = b then none else (og st.own c).map (scrubBlk b) := fun c => by
    show og ((st.nx, k') :: (oerase st.own b).map fun p => (p.1, scrubBlk b p.2)) c = _
    rw [og_cons, og_map, og_oerase]
    by_cases hc : st.nx = c
    · rw [if_pos hc, if_pos (show c = st.nx from hc.symm)]
    · rw [if_neg hc, if_neg (show ¬ c = st.nx from fun x => hc x.symm)]
      by_cases hcb : c = b
      · rw [if_pos hcb, if_pos hcb]; rfl
      · rw [if_neg hcb, if_neg hcb]
  have hdom : ∀ c, (og (appSt st b d k').own c).isSome = true → c = st.nx ∨ (c ≠ st.nx ∧ c ≠ b ∧ (og st.own c).isSome = true) := fun c hc => by
    rw [hogs] at hc
    by_cases h1 : c = st.nx
    · exact .inl h1
    · rw [if_neg h1] at hc
      by_cases h2 : c = b
      · rw [if_pos h2] at hc; cases hc
      · rw [if_neg h2] at hc
        exact .inr ⟨h1, h2, by simpa using hc⟩
  have hdom' : ∀ c, c ≠ b → (og st.own c).isSome = true → (og (appSt st b d k').own c).isSome = true := fun c h1 h2 => by
    have h3 : c ≠ st.nx := fun x => by rw [x, hn] at h2; cases h2
    rw [hogs, if_neg h3, if_neg h1]
    simpa using h2
  have hup : ∀ c, c ≠ st.nx → updρ ρ st.nx v' c = ρ c := fun c hc => updρ_ne ρ v' hc
  have hx : ∀ {w''}, Ext (Mt F (updρ ρ st.nx v') (appSt st b d k').own) w' w'' → Ext (Mt F ρ st.own) w w'' := fun hx => ⟨Nat.le_trans hsz hx.size, fun i hi hm => by
    rw [hx.keep i (by omega) fun hm' => ?_]
    · exact hw.block i hi fun x => hm (.inr ⟨b, by rw [hb]; rfl, x.symm⟩)
    rcases hm' with ho | ⟨c, hc, hk⟩
    · exact hm (.inl ho)
    · rcases hdom c hc with rfl | ⟨h1, h2, h3⟩
      · rw [updρ_at] at hk
        rcases hv _ hk with h | h
        · exact hm (.inr ⟨b, by rw [hb]; rfl, h⟩)
        · omega
      · rw [hup c h1] at hk
        exact hm (.inr ⟨c, h3, hk⟩)⟩
  -- what was robust, in the new letters
  have hr3 : ∀ {ρ'}, Agr (appSt st b d k').own (updρ ρ st.nx v') ρ' → Agr st.own ρ (fun c => if c = b then ρ b else ρ' c) := fun ha c hc => by
    show (if c = b then ρ b else _) = ρ c
    split
    · next e => rw [e]
    · next e =>
      have h3 : c ≠ st.nx := fun x => by rw [x, hn] at hc; cases hc
      rw [ha c (hdom' c e hc), hup c h3]
  have hne : ∀ {ρ' : Nat → Value} (c : Nat), c ≠ b → (fun c => if c = b then ρ b else ρ' c) c = ρ' c := fun c hc => if_neg hc
  have hkeep : ∀ c, c ≠ b → (og st.own c).isSome = true → ∀ g, vblk (ρ c) = some g → w'.heap[g]? = w.heap[g]? := fun c hc hs' g hg => by
    obtain ⟨kc, hkc⟩ := Option.isSome_iff_exists.1 hs'
    exact hw.block g ((hs.own c kc hkc).lt hg) fun x => hc (hs.inj c b g hs' (by rw [hb]; rfl) hg x.symm)
  refine ⟨updρ ρ st.nx v', ?_⟩
  have htm : ∀ t, Rob F (updρ ρ st.nx v') (appSt st b d k').own w' fun ρ' w'' => (scrubAV b (gt st.tm t)).at ρ' w'' (a.tmps.getD t undef) := fun t ρ' w'' k1 k2 => scrub_av (hne (ρ' := ρ')) (hs.tm t _ w'' (hr3 k1) (hx k2))
  have hbelow : Below F.w0.heap.size F.w0 w' := hs.below.trans ⟨hw.os, hw.tape, hw.output, hsz, fun i hi => hw.block i (by have := hs.size; omega) fun x => by
    have := hs.base b i (by rw [hb]; rfl) x.symm
    omega⟩
  refine ⟨by cases d <;> exact hs.dfr, by cases d <;> simp [Act.put, hs.nt], fun t => ?_, fun c kc hkc => ?_, fun c c' g h1 h2 g1 g2 => ?_, fun c g h1 hg => ?_, fun c g h1 hg ho => ?_, hbelow, fun ρ' w'' k1 k2 => hs.gl ρ w'' (Agr.refl _ _) (hx k2), fun i hi => ⟨Nat.lt_of_lt_of_le (hs.oo i hi).1 hsz, fun cc e f hc => (hs.oo i hi).2 cc e f (by rw [← hw.block i (hs.oo i hi).1 fun x => hs.dis b i (by rw [hb]; rfl) x.symm hi]; exact hc)⟩⟩
  · cases d with
    | none =>
      show Rob F _ _ w' fun ρ' w'' => (gt (st.tm.map fun p => (p.1, scrubAV b p.2)) t).at ρ' w'' _
      rw [gt_map _ rfl]
      exact htm t
    | some d =>
      intro ρ' w'' k1 k2
      rw [getD_put _ _ _ _ (by rw [hs.nt]; exact blt_lt hd)]
      show (gt ((d, .v (.c (.row st.nx))) :: st.tm.map fun p => (p.1, scrubAV b p.2)) t).at ρ' w'' _
      rw [gt_cons, gt_map _ rfl]
      split
      · refine ⟨hone, hnou, ?_⟩
        rw [k1 st.nx (by rw [hogs, if_pos rfl]; rfl), updρ_at]
      · exact htm t ρ' w'' k1 k2
  · rw [hogs] at hkc
    by_cases h1 : c = st.nx
    · rw [if_pos h1] at hkc
      cases hkc
      subst h1
      rw [updρ_at]
      obtain ⟨kk, e, u, α, mk, Z, n, rfl⟩ := hkp
      exact hk.mono' fun i j x hi hj pp hr ρ' w'' k1 k2 => pureL_at pp (hr ρ w'' (Agr.refl _ _) (hx k2))
    · rw [if_neg h1] at hkc
      by_cases h2 : c = b
      · rw [if_pos h2] at hkc; cases hkc
      · rw [if_neg h2] at hkc
        cases hcc : og st.own c with
        | none => rw [hcc] at hkc; cases hkc
        | some k0 =>
          rw [hcc] at hkc
          cases hkc
          have hA := (hs.own c k0 hcc).mono (hkeep c h2 (by rw [hcc]; rfl)) fun _ _ h => h
          rw [hup c h1]
          cases k0 with
          | st ls =>
            obtain ⟨g, cs, ee, q1, q2, q3, q4⟩ := hA
            exact ⟨g, cs, ee, q1, q2, CellsR.unrob fun ρ' w'' k1 k2 => scrub_cells (hne (ρ' := ρ')) (q3.rob _ w'' (hr3 k1) (hx k2)), q4⟩
          | rw kk ee u α mk Z n => exact hA.mono' fun i j x hi hj pp hr ρ' w'' k1 k2 => pureL_at pp (hr ρ w'' (Agr.refl _ _) (hx k2))
  · have old : ∀ c g, (og st.own c).isSome = true → vblk (ρ c) = some g → g < w.heap.size := fun c g hs' hg => by
      obtain ⟨kc, hkc⟩ := Option.isSome_iff_exists.1 hs'
      exact (hs.own c kc hkc).lt hg
    rcases hdom c h1 with rfl | ⟨n1, m1, s1⟩ <;> rcases hdom c' h2 with rfl | ⟨n2, m2, s2⟩
    · rfl
    · rw [updρ_at] at g1
      rw [hup _ n2] at g2
      rcases hv g g1 with h | h
      · exact absurd (hs.inj c' b g s2 (by rw [hb]; rfl) g2 h) m2
      · have := old _ _ s2 g2; omega
    · rw [updρ_at] at g2
      rw [hup _ n1] at g1
      rcases hv g g2 with h | h
      · exact absurd (hs.inj c b g s1 (by rw [hb]; rfl) g1 h) m1
      · have := old _ _ s1 g1; omega
    · rw [hup _ n1] at g1
      rw [hup _ n2] at g2
      exact hs.inj c c' g s1 s2 g1 g2
  · rcases hdom c h1 with rfl | ⟨n1, m1, s1⟩
    · rw [updρ_at] at hg
      rcases hv g hg with h | h
      · exact hs.base b g (by rw [hb]; rfl) h
      · have := hs.size; omega
    · rw [hup _ n1] at hg
      exact hs.base c g s1 hg
  · rcases hdom c h1 with rfl | ⟨n1, m1, s1⟩
    · rw [updρ_at] at hg
      rcases hv g hg with h | h
      · exact hs.dis b g (by rw [hb]; rfl) h ho
      · have := (hs.oo g ho).1; omega
    · rw [hup _ n1] at hg
      exact hs.dis c g s1 hg ho

theorem grown_at {k n m : Nat} {α β : Type} {mk : α → Nat → Leaf} {mk' : β → Nat → Leaf} {Z Y' : Nat → α} {Y : Nat → β} {own : List (Nat × Blk)} {old news tl : List Value} (hol : old.length = n * k) (hnl : news.length = m * k)
    (h1 : ∀ i j, i < n → j < k → pureL (mk (Z i) j) = true ∧ ∃ x, old[i * k + j]? = some x ∧ x.oneCell' = true ∧ Rob F ρ own w fun ρ' w' => (mk (Z i) j).at ρ' w' x)
    (h2 : ∀ i j, i < m → j < k → ∃ u, news[i * k + j]? = some u ∧ u.oneCell' = true ∧ Rob F ρ own w fun _ w' => ∀ r, (mk' (Y i) j).at r w' u)
    (hle : ∀ i j, i < m → j < k → LeafLe (mk' (Y i) j) (mk (Y' i) j)) (hp : ∀ i j, i < m → j < k → pureL (mk (Y' i) j) = true) :
    ∀ i j, i < n + m → j < k → pureL (mk (appZ α Z Y' n i) j) = true ∧ ∃ x, (old ++ news ++ tl)[i * k + j]? = some x ∧ x.oneCell' = true ∧ Rob F ρ own w fun ρ' w' => (mk (appZ α Z Y' n i) j).at ρ' w' x := by
  intro i j hi hj
  by_cases hin : i < n
  · have hlt : i * k + j < n * k := by
      have : (i + 1) * k ≤ n * k := Nat.mul_le_mul_right _ hin
      rw [Nat.add_mul] at this
      omega
    have e : appZ α Z Y' n i = Z i := if_pos hin
    rw [e]
    obtain ⟨pp, x, x1, x2, x3⟩ := h1 i j hin hj
    exact ⟨pp, x, by rw [List.append_assoc, List.getElem?_append_left (by omega)]; exact x1, x2, x3⟩
  · have hlt : (i - n) * k + j < m * k := by
      have : (i - n + 1) * k ≤ m * k := Nat.mul_le_mul_right _ (by omega)
      rw [Nat.add_mul] at this
      omega
    have hsub : i * k + j - n * k = (i - n) * k + j := by
      have : i * k = (i - n) * k + n * k := by rw [← Nat.add_mul]; congr 1; omega
      omega
    have hge : n * k ≤ i * k := Nat.mul_le_mul_right _ (by omega)
    have e : appZ α Z Y' n i = Y' (i - n) := if_neg hin
    rw [e]
    obtain ⟨u, u1, u2, u3⟩ := h2 (i - n) j (by omega) hj
    refine ⟨hp _ _ (by omega) hj, u, ?_, u2, fun ρ' w' k1 k2 => (hle _ _ (by omega) hj).h ρ' w' u u2 (u3 ρ' w' k1 k2 ρ')⟩
    rw [List.append_assoc, List.getElem?_append_right (by omega), hol, hsub, List.getElem?_append_left (by omega)]
    exact u1
theorem append_run {o : Oper} {args : Array Operand} {ts : Array TypeId} {s x : Operand} {t : TypeId} {v : Value} {w' : World} (ho : o.op = .call ⟨.builtin .append, args, ts⟩) (ha : args.toList = [s, x]) (hts : ts.toList = [t, t])
    (h : (Builtin.append_ #[t, t] o.type #[a.eval s, a.eval x]).run C.P w = .ok v w') : (execOp a.eval o).run C.P w = .ok (.value v) w' := by
  have ha' : args = #[s, x] := Array.ext' ha
  have ht' : ts = #[t, t] := Array.ext' hts
  simp [execOp, ho, ha', ht', resolve, invoke, builtin, h]
theorem step_app_nil (hT : TysOk C.P C.tys) {o : Oper} {args : Array Operand} {ts : Array TypeId} {s x : Operand} {t e : TypeId} {sz sb m k' : Nat} {z : List Value} {dd : TyD} {β : Type} {mk' : β → Nat → Leaf} {Y : Nat → β} (hg : o.guard = none) (ho : o.op = .call ⟨.builtin .append, args, ts⟩) (ha : args.toList = [s, x]) (hts : ts.toList = [t, t])
    (hd : dstOk N.nt o.dst = true) (ht : tg C.tys t = some ⟨.slice e, sz, sb, z⟩) (he : tg C.tys e = some dd) (hx : ev st x = .v (.c (.sl k' β mk' Y m))) (hs0 : ev st s = .v (.c (.x (.slice none 0 0))))
    (hb : (Nat.beq k' dd.size && Nat.ble 1 dd.size && Nat.ble dd.bytes 256 && Nat.beq dd.zero.length dd.size && dd.zero.all nou && dd.zero.all Value.oneCell' && (og st.own st.nx).isNone) = true)
    (h : Ob (1 ≤ m ∧ m ≤ 274877906944) (AppNil k' β mk' Y m fun α mk Y' => K (st.add o.dst ⟨.v (.c (.row st.nx)), some (st.nx, .rw k' e false α mk Y' m)⟩))) : StepOp C N ops st o K := by
  simp only [Bool.and_eq_true] at hb
  obtain ⟨⟨⟨⟨⟨⟨b1, b2⟩, b3⟩, b4⟩, b5⟩, b6⟩, b7⟩ := hb
  have hk' := Nat.eq_of_beq_eq_true b1
  have h1d := Nat.le_of_ble_eq_true b2
  have hby := Nat.le_of_ble_eq_true b3
  have hzl := Nat.eq_of_beq_eq_true b4
  obtain ⟨hm1, hm2⟩ := h.a
  obtain ⟨α, mk, Y', hle, hp, hk⟩ := h.b.w
  refine step_run hg fun F ρ a w _ hN hs => ?_
  have hr := ev_rob hs hx
  obtain ⟨g, off, cap, news, e1, e2, e3, e4⟩ := sl_cells (v := a.eval x) (fun ρ' w' k1 k2 => (hr ρ' w' k1 k2).2) hm1 (show 1 ≤ k' by omega)
  obtain ⟨i, u, zv, i1, i2, i3, i4⟩ := tyOf_spec (tysOk_get hT he)
  have his : i.size = k' := by rw [hk', i4]
  have hib : i.bytes ≤ 256 := by rw [i4] at hby; exact hby
  have hbb : m * i.bytes ≤ 274877906944 * 256 := Nat.mul_le_mul hm2 hib
  have hrun := run_append_nil (P := C.P) w t o.type e i zv (tyOf_slice (tysOk_get hT ht)) i1 i3 ⟨g, off, none⟩ m cap news (by rw [his]; exact e2) e3 (by omega) (by omega) (by omega)
  have hzs : zv.cells.size = k' := by
    rw [hk', ← hzl, i4]
    exact Array.length_toList.symm
  have hcap := grownCap_ge w m 0 e
  have hcm := grownCap_le_maxLen w m 0 e (by unfold maxLen; omega)
  have hbel : Below w.heap.size w (w.drew.alloc (.cells (news.toArray ++ Builtin.zeroCells zv.cells (grownCap w m 0 e - m)) e)) := (Below.refl _ _).drew.alloc (Nat.le_refl _) _
  have hgr := grown_at (F := F) (ρ := ρ) (w := w) (own := st.own) (k := k') (n := 0) (m := m) (mk := mk) (mk' := mk') (Z := Y') (Y' := Y') (Y := Y) (old := []) (news := news) (tl := (Builtin.zeroCells zv.cells (grownCap w m 0 e - m)).toList) (by simp) e2 (fun i j hi => by omega) e4 hle (fun i j hi hj => pureN_l (hp i j hi hj))
  rw [List.nil_append, Nat.zero_add] at hgr
  have ez : ∀ i, appZ α Y' Y' 0 i = Y' i := fun i => by unfold appZ; simp
  have hmade : Made F ρ st ⟨.v (.c (.row st.nx)), some (st.nx, .rw k' e false α mk Y' m)⟩ (.slice (some ⟨w.heap.size, 0, none⟩) m (grownCap w m 0 e)) w (w.drew.alloc (.cells (news.toArray ++ Builtin.zeroCells zv.cells (grownCap w m 0 e - m)) e)) := by
    refine ⟨hbel, by simpa using b7, .slice (some ⟨w.heap.size, 0, none⟩) m (grownCap w m 0 e), fun g hg => by cases hg; exact Nat.le_refl _, fun ρ' w' k1 k2 => ⟨rfl, rfl, ?_⟩, ?_⟩
    · rw [k1 st.nx (by rw [og_cons, if_pos rfl]; rfl), updρ_at]
    · refine .inr ⟨w.heap.size, grownCap w m 0 e, _, rfl, heap_alloc_new w.drew _, hcap, hcm, ?_, ?_, fun i j hi hj => ?_⟩
      · rw [Array.size_append, size_zeroCells, hzs, List.size_toArray, e2, ← Nat.add_mul]
        congr 1
        omega
      · exact trivial
      · obtain ⟨pp, x0, x1, x2, x3⟩ := hgr i j hi hj
        rw [ez] at pp x3
        refine ⟨pp, x0, ?_, x2, x3.new (by simpa using b7) hbel fun g hg => by cases hg; exact Nat.le_refl _⟩
        rw [← Array.getElem?_toList, Array.toList_append]
        exact x1
  exact ⟨.value _, _, append_run ho ha hts (by rw [ev_x hs hs0, e1]; exact hrun), .inr ⟨_, rfl, _, hk, hs.add hmade (by rw [hN]; exact hd)⟩⟩
theorem run_append_zero {P : Program} {w : World} {t ty e : TypeId} {i : TypeInfo} (hst : P.underlying t = some (.slice e)) (i1 : P.info? e = some i) (base : Option Addr) (n cap : Nat) (hn : n ≤ cap) (ad : Option Addr) (cap' : Nat) :
    (Builtin.append_ #[t, t] ty #[.slice base n cap, .slice ad 0 cap']).run P w = .ok (.slice base n cap) w := by
  cases ad <;> cases base <;> simp [Builtin.append_, run_underlying hst, sizeOf, typeInfo, i1, Builtin.lenOf, Builtin.firstCells, loadCells, loadCellsFrom, storeCells, hn]
theorem sl_any {k m : Nat} {β : Type} {mk : β → Nat → Leaf} {Y : Nat → β} {own : List (Nat × Blk)} {v : Value} (h : Rob F ρ own w fun ρ' w' => (Leaf.sl k β mk Y m).at ρ' w' v) : ∃ ad cap, v = .slice ad m cap := by
  obtain ⟨ad, cap, e, _⟩ := h.now
  exact ⟨ad, cap, e⟩
theorem step_app_row (hT : TysOk C.P C.tys) {o : Oper} {args : Array Operand} {ts : Array TypeId} {s x : Operand} {t e e' : TypeId} {sz sb m n k k' b : Nat} {uu : Bool} {z : List Value} {dd : TyD} {α β : Type} {mk : α → Nat → Leaf} {Z : Nat → α} {mk' : β → Nat → Leaf} {Y : Nat → β} (hg : o.guard = none) (ho : o.op = .call ⟨.builtin .append, args, ts⟩) (ha : args.toList = [s, x]) (hts : ts.toList = [t, t])
    (hd : dstOk N.nt o.dst = true) (ht : tg C.tys t = some ⟨.slice e, sz, sb, z⟩) (he : tg C.tys e = some dd) (hx : ev st x = .v (.c (.sl k' β mk' Y m))) (hs0 : ev st s = .v (.c (.row b))) (hbw : og st.own b = some (.rw k e' uu α mk Z n))
    (hb : (Nat.beq k' dd.size && Nat.ble 1 dd.size && Nat.ble dd.bytes 256 && Nat.beq dd.zero.length dd.size && dd.zero.all nou && dd.zero.all Value.oneCell' && (og st.own st.nx).isNone) = true)
    (h : guardB (Nat.beq k dd.size && Nat.beq e' e && !uu) (Ob (n + m ≤ 274877906944) (AppOb k α mk β mk' Y m fun Y' => K (appSt st b o.dst (.rw k e' uu α mk (appZ α Z Y' n) (n + m)))))) : StepOp C N ops st o K := by
  obtain ⟨hb2, hO⟩ := guardB_out h
  simp only [Bool.and_eq_true] at hb hb2
  obtain ⟨⟨⟨⟨⟨⟨b1, b2⟩, b3⟩, b4⟩, b5⟩, b6⟩, b7⟩ := hb
  obtain ⟨⟨c1, c2⟩, c3⟩ := hb2
  have hk' := Nat.eq_of_beq_eq_true b1
  have hkd := Nat.eq_of_beq_eq_true c1
  obtain rfl := Nat.eq_of_beq_eq_true c2
  have hu : uu = false := by simpa using c3
  subst hu
  have h1d := Nat.le_of_ble_eq_true b2
  have hby := Nat.le_of_ble_eq_true b3
  have hzl := Nat.eq_of_beq_eq_true b4
  have hm2 := hO.a
  obtain ⟨Y', hle, hp, hk⟩ := hO.b.w
  obtain rfl : k = k' := by omega
  have hnx : og st.own st.nx = none := by simpa using b7
  refine step_run hg fun F ρ a w _ hN hs => ?_
  have hr := ev_rob hs hx
  rcases Nat.eq_zero_or_pos m with hm0 | hm1
  · obtain ⟨i, u, zv, i1, i2, i3, i4⟩ := tyOf_spec (tysOk_get hT he)
    have hsv : a.eval s = ρ b := (ev_rob hs hs0).now.2.2
    have hst := tyOf_slice (tysOk_get hT ht)
    subst hm0
    obtain ⟨ad, capx, ex⟩ := sl_any (v := a.eval x) (fun ρ' w' k1 k2 => (hr ρ' w' k1 k2).2)
    have hW : World.grownBy w w (vblk (ρ b)) := ⟨rfl, rfl, rfl, Nat.le_refl _, fun _ _ _ => rfl⟩
    have hag : ∀ i, i < n → appZ α Z Y' n i = Z i := fun i hi => by unfold appZ; rw [if_pos hi]
    rcases hs.own b _ hbw with ⟨q1, rfl⟩ | ⟨gr, cr, c, q1, q2, q3, q4, q5, q6, q7⟩
    · refine ⟨.value _, _, append_run ho ha hts (by rw [hsv, q1, ex]; exact run_append_zero hst i1 none 0 0 (Nat.le_refl _) ad capx), .inr ⟨_, rfl, _, hk, hs.turn hbw hnx (by rw [hN]; exact hd) rfl rfl hW (fun g hg => by cases hg) (.inl ⟨rfl, rfl⟩) ⟨_, _, _, _, _, _, _, rfl⟩⟩⟩
    · refine ⟨.value _, _, append_run ho ha hts (by rw [hsv, q1, ex]; exact run_append_zero hst i1 _ n cr q3 ad capx), .inr ⟨_, rfl, _, hk, hs.turn hbw hnx (by rw [hN]; exact hd) rfl rfl hW (fun g hg => .inl (by rw [q1]; exact hg)) ?_ ⟨_, _, _, _, _, _, _, rfl⟩⟩⟩
      refine .inr ⟨gr, cr, c, rfl, q2, q3, q4, q5, q6, fun i j hi hj => ?_⟩
      have hi' : i < n := by omega
      rw [hag i hi']
      exact q7 i j hi' hj
  obtain ⟨g, off, cap, news, e1, e2, e3, e4⟩ := sl_cells (v := a.eval x) (fun ρ' w' k1 k2 => (hr ρ' w' k1 k2).2) hm1 (show 1 ≤ k by omega)
  obtain ⟨i, u, zv, i1, i2, i3, i4⟩ := tyOf_spec (tysOk_get hT he)
  have his : i.size = k := by rw [hk', i4]
  have hib : i.bytes ≤ 256 := by rw [i4] at hby; exact hby
  have hzs : zv.cells.size = k := by
    rw [hk', ← hzl, i4]
    exact Array.length_toList.symm
  have hsv : a.eval s = ρ b := (ev_rob hs hs0).now.2.2
  have hst := tyOf_slice (tysOk_get hT ht)
  rcases hs.own b _ hbw with ⟨q1, rfl⟩ | ⟨gr, cr, c, q1, q2, q3, q4, q5, q6, q7⟩
  · have hbb : m * i.bytes ≤ 274877906944 * 256 := Nat.mul_le_mul (by omega) hib
    have hrun := run_append_nil (P := C.P) w t o.type e' i zv hst i1 i3 ⟨g, off, none⟩ m cap news (by rw [his]; exact e2) e3 (by omega) (by omega) (by omega)
    have hcap := grownCap_ge w m 0 e'
    have hcm := grownCap_le_maxLen w m 0 e' (by unfold maxLen; omega)
    have hgr := grown_at (F := F) (ρ := ρ) (w := w) (own := st.own) (k := k) (n := 0) (m := m) (mk := mk) (mk' := mk') (Z := Z) (Y' := Y') (Y := Y) (old := []) (news := news) (tl := (Builtin.zeroCells zv.cells (grownCap w m 0 e' - m)).toList) (by simp) e2 (fun i j hi => by omega) e4 hle (fun i j hi hj => pureN_l (hp i j hi hj))
    rw [List.nil_append, Nat.zero_add] at hgr
    refine ⟨.value _, _, append_run ho ha hts (by rw [hsv, q1, e1]; exact hrun), .inr ⟨_, rfl, _, hk, hs.turn hbw hnx (by rw [hN]; exact hd) rfl rfl ?_ (fun g hg => by cases hg; exact .inr (Nat.le_refl _)) ?_ ⟨_, _, _, _, _, _, _, rfl⟩⟩⟩
    · exact ⟨rfl, rfl, rfl, by simp, (World.grownBy_alloc w.drew _ _).block⟩
    · rw [Nat.zero_add]
      refine .inr ⟨w.heap.size, grownCap w m 0 e', _, rfl, heap_alloc_new w.drew _, hcap, hcm, ?_, ?_, fun i j hi hj => ?_⟩
      · rw [Array.size_append, size_zeroCells, hzs, List.size_toArray, e2, ← Nat.add_mul]
        congr 1
        omega
      · exact trivial
      · obtain ⟨pp, x0, x1, x2, x3⟩ := hgr i j hi hj
        refine ⟨pp, x0, ?_, x2, x3⟩
        rw [← Array.getElem?_toList, Array.toList_append]
        exact x1
  · have hcl : c.toList.length = c.size := Array.length_toList
    have hnk : n * k ≤ cr * k := Nat.mul_le_mul_right _ q3
    have hol : (c.toList.take (n * k)).length = n * k := by rw [List.length_take]; omega
    have hold : ∀ i j, i < n → j < k → pureL (mk (Z i) j) = true ∧ ∃ x, (c.toList.take (n * k))[i * k + j]? = some x ∧ x.oneCell' = true ∧ Rob F ρ st.own w fun ρ' w' => (mk (Z i) j).at ρ' w' x := fun i j hi hj => by
      obtain ⟨pp, x0, x1, x2, x3⟩ := q7 i j hi hj
      have hlt : i * k + j < n * k := by
        have : (i + 1) * k ≤ n * k := Nat.mul_le_mul_right _ hi
        rw [Nat.add_mul] at this
        omega
      exact ⟨pp, x0, by rw [List.getElem?_take, if_pos hlt, Array.getElem?_toList]; exact x1, x2, x3⟩
    have hnous : ∀ (L : List Value), (c.toList.take (n * k) ++ news)[0]? = L[0]? → NoU L := fun _ _ => trivial
    have hfst : ∀ T : List Value, (c.toList.take (n * k) ++ news)[0]? = (c.toList.take (n * k) ++ news ++ T)[0]? := fun T => (List.getElem?_append_left (by
      rw [List.length_append, hol, e2]
      have : 1 * k ≤ m * k := Nat.mul_le_mul_right _ hm1
      omega)).symm
    by_cases hroom : n + m ≤ cr
    · have hfit : n * i.size + news.length ≤ c.size := by
        rw [e2, his, q5, ← Nat.add_mul]
        exact Nat.mul_le_mul_right _ hroom
      have hone : ∀ u ∈ news, u.oneCell' = true := fun u hu => by
        obtain ⟨q, hq, rfl⟩ := List.mem_iff_getElem.1 hu
        have hlt : q < m * k := by omega
        obtain ⟨u0, u1, u2, _⟩ := e4 (q / k) (q % k) ((Nat.div_lt_iff_lt_mul (by omega)).2 hlt) (Nat.mod_lt _ (by omega))
        rw [Nat.div_add_mod', List.getElem?_eq_getElem hq] at u1
        cases u1
        exact u2
      have hrun := run_append_room (P := C.P) w t o.type e' i hst i1 gr n cr c q2 ⟨g, off, none⟩ m cap news (by rw [his]; exact e2) e3 hone hroom hfit
      rw [his, e2] at hrun
      have hgr := grown_at (F := F) (ρ := ρ) (w := w) (own := st.own) (k := k) (n := n) (m := m) (mk := mk) (mk' := mk') (Z := Z) (Y' := Y') (Y := Y) (old := c.toList.take (n * k)) (news := news) (tl := c.toList.drop (n * k + m * k)) hol e2 hold e4 hle (fun i j hi hj => pureN_l (hp i j hi hj))
      refine ⟨.value _, _, append_run ho ha hts (by rw [hsv, q1, e1]; exact hrun), .inr ⟨_, rfl, _, hk, hs.turn hbw hnx (by rw [hN]; exact hd) rfl rfl ?_ (fun g hg => by cases hg; exact .inl (by rw [q1]; rfl)) ?_ ⟨_, _, _, _, _, _, _, rfl⟩⟩⟩
      · exact ⟨rfl, rfl, rfl, by simp, fun k _ hk => setRow_other w gr k _ (fun x => hk (by rw [q1, x]; rfl))⟩
      · refine .inr ⟨gr, cr, _, rfl, setRow_heap w gr c _ e' _ q2, hroom, q4, ?_, hnous _ ?_, fun i j hi hj => ?_⟩
        · have : n * k + m * k ≤ c.size := by rw [his, e2] at hfit; exact hfit
          simp only [List.size_toArray, List.length_append, List.length_take, List.length_drop, e2]
          omega
        · exact hfst _
        · obtain ⟨pp, x0, x1, x2, x3⟩ := hgr i j hi hj
          exact ⟨pp, x0, by rw [List.getElem?_toArray]; exact x1, x2, x3⟩
    · have hbb : (n + m) * i.bytes ≤ 274877906944 * 256 := Nat.mul_le_mul (by omega) hib
      have holds : ∀ (j : Nat) (u : Value), (c.toList.take (n * k))[j]? = some u → w.cell? ((⟨gr, 0, none⟩ : Addr).add j) = some u := fun j u hj => by
        rw [List.getElem?_take] at hj
        split at hj
        · rw [addr_add]
          simp only [World.cell?, q2, Nat.zero_add]
          simpa using hj
        · cases hj
      have hrun := run_append_grow (P := C.P) w t o.type e' i zv hst i1 i3 ⟨gr, 0, none⟩ n cr (c.toList.take (n * k)) (by rw [his]; exact hol) holds ⟨g, off, none⟩ m cap news (by rw [his]; exact e2) e3 (by omega) (by omega) (growslice_fits (by omega) (by omega))
      have hcap := grownCap_ge w (n + m) cr e'
      have hcm := grownCap_le_maxLen w (n + m) cr e' (by unfold maxLen; omega)
      have hgr := grown_at (F := F) (ρ := ρ) (w := w) (own := st.own) (k := k) (n := n) (m := m) (mk := mk) (mk' := mk') (Z := Z) (Y' := Y') (Y := Y) (old := c.toList.take (n * k)) (news := news) (tl := (Builtin.zeroCells zv.cells (grownCap w (n + m) cr e' - (n + m))).toList) hol e2 hold e4 hle (fun i j hi hj => pureN_l (hp i j hi hj))
      refine ⟨.value _, _, append_run ho ha hts (by rw [hsv, q1, e1]; exact hrun), .inr ⟨_, rfl, _, hk, hs.turn hbw hnx (by rw [hN]; exact hd) rfl rfl ?_ (fun g hg => by cases hg; exact .inr (Nat.le_refl _)) ?_ ⟨_, _, _, _, _, _, _, rfl⟩⟩⟩
      · exact ⟨rfl, rfl, rfl, by simp, (World.grownBy_alloc w.drew _ _).block⟩
      · refine .inr ⟨w.heap.size, grownCap w (n + m) cr e', _, rfl, heap_alloc_new w.drew _, hcap, hcm, ?_, hnous _ ?_, fun i j hi hj => ?_⟩
        · rw [Array.size_append, Array.size_append, size_zeroCells, hzs, List.size_toArray, List.size_toArray, hol, e2, ← Nat.add_mul, ← Nat.add_mul]
          congr 1
          omega
        · rw [Array.toList_append, Array.toList_append]
          exact hfst _
        · obtain ⟨pp, x0, x1, x2, x3⟩ := hgr i j hi hj
          refine ⟨pp, x0, ?_, x2, x3⟩
          rw [← Array.getElem?_toList, Array.toList_append, Array.toList_append]
          exact x1
end
end Go.VG

/- States in letters: operations one behind the other; code; loops; functions. -/
namespace Go.VG
open Go Go.RowKit
section
variable {C : Ctx} {N : Fnx} {ops : Array Oper} {st : St} {F : Fix} {ρ : Nat → Value} {a : Act} {w : World} {K : St → Prop}

theorem step_callT {o : Oper} {f : FuncId} {args : Array Operand} {ts : Array TypeId} (hg : o.guard = none) (ho : o.op = .call ⟨.value (.func f), args, ts⟩) (h : CallT C N.nt st f (args.toList.map (ev st)) o.dst K) : StepOp C N ops st o K := by
  rintro F a w Q hG hN ⟨ρ, hs⟩
  obtain ⟨fn, hf, hnm, hb⟩ := h.ok
  have := h.w F ρ a w (args.toList.map a.eval) hG hN hs (args_at hs _)
  unfold opWp
  rw [if_pos (by simp [Region.wanted, hg])]
  left
  unfold Oper.wp
  have e : (execOp a.eval o).run C.P w = .ok (.enter f (args.map a.eval)) w := by
    have hnm' : ¬ fn.name = "runtime.NumGoroutine" := by simpa using hnm
    cases hbd : fn.body with
    | none => rw [hbd] at hb; cases hb
    | some c => simp [execOp, ho, resolve, Act.eval, Deferred.ofValue, invoke, callFunc, hf, hnm', hbd]
  rw [e]
  have e2 : args.map a.eval = (args.toList.map a.eval).toArray := Array.ext' (by simp)
  rw [e2, Oper.upon_enter]
  refine this.mono fun en w' he => ?_
  obtain ⟨v, st', rfl, q1, q2⟩ := he
  exact ⟨st', q1, q2⟩
def storesOk (ops : List Oper) : Bool := ops.all fun o => match o.op with
  | .store .. => o.dst.isNone
  | _ => true
theorem vcE_sound (hT : TysOk C.P C.tys) {o : Oper} (hg : o.guard = none) (hst : (match o.op with
    | .store .. => o.dst.isNone
    | _ => true) = true) (h : vcE C N st o K) : StepOp C N ops st o K := by
  generalize hop : o.op = op at h hst
  unfold vcE at h
  rw [hop] at h
  split at h
  · have hdst : o.dst = none := by simpa using hst
    split at h
    · next hd =>
      split at h
      · next hl =>
        obtain ⟨h0, h⟩ := guardB_out h
        split at h
        · next hx =>
          split at h
          · next hb => exact step_store_st hT hg hop hdst hd hl h0 hx hb h
          · exact h.elim
        · next hx =>
          split at h
          · next hb => exact step_store_rl hT hg hop hdst hd hl h0 hx hb h
          · exact h.elim
        · exact h.elim
      · exact h.elim
    · exact h.elim
  · split at h
    · next ha hts =>
      obtain ⟨hb, h2⟩ := guardB_out h
      clear h
      rw [Bool.and_eq_true] at hb
      obtain rfl := Nat.eq_of_beq_eq_true hb.1
      unfold vcApp at h2
      split at h2
      · next ht =>
        split at h2
        · next he =>
          split at h2
          · next hx =>
            obtain ⟨h0, h3⟩ := guardB_out h2
            split at h3
            · next hs =>
              split at h3
              · next hbw => exact step_app_row hT hg hop ha hts hb.2 ht he hx hs hbw h0 h3
              · exact h3.elim
            · next hs => exact step_app_nil hT hg hop ha hts hb.2 ht he hx hs h0 h3
            · exact h3.elim
          · exact h2.elim
        · exact h2.elim
      · exact h2.elim
    · exact h.elim
  · obtain ⟨hd, h2⟩ := guardB_out h
    split at h2
    · exact step_callT hg hop h2
    · split at h2
      · next st' hf =>
        obtain ⟨fn, f1, f2, f3⟩ := h2.ok
        obtain ⟨r, hk, hp⟩ := snd_call (ops := ops) (K := fun r => K (st'.add o.dst r)) hg hop f1 f2 f3 h2
        have := step_pure hp hd hk
        rintro F a w Q hG hN ⟨ρ, hs⟩
        exact this F a w Q hG hN ⟨ρ, frzs_sat hf hs⟩
      · exact h2.elim
  · split at h
    · next st' hf =>
      obtain ⟨hd, h2⟩ := guardB_out h
      obtain ⟨r, hk, hp⟩ := vc1_sound (ops := ops) hT hg (hop ▸ h2)
      have := step_pure hp hd hk
      rintro F a w Q hG hN ⟨ρ, hs⟩
      exact this F a w Q hG hN ⟨ρ, frzs_sat hf hs⟩
    · exact h.elim
  · obtain ⟨hd, h2⟩ := guardB_out h
    obtain ⟨r, hk, hp⟩ := vc1_sound (ops := ops) hT hg (hop ▸ h2)
    exact step_pure hp hd hk

theorem storesOk_mem {l : List Oper} (h : storesOk l = true) {o : Oper} (ho : o ∈ l) : (match o.op with
    | .store .. => o.dst.isNone
    | _ => true) = true := List.all_eq_true.1 h o ho
theorem opWp_guard {P : Program} {ops : Array Oper} {Q : Exit → Act → World → Prop} {o : Oper} {K : Act → World → Prop} {a : Act} {w : World} (hw : Region.wanted o (yielded ops a.tmps) = true) (h : opWp P ops Q { o with guard := none } K a w) : opWp P ops Q o K a w := by
  unfold opWp at *
  rw [if_pos hw]
  rw [if_pos (by simp [Region.wanted])] at h
  exact h
theorem vcG_sound (hT : TysOk C.P C.tys) {l : List Oper} {o : Oper} (hst : (match o.op with
    | .store .. => o.dst.isNone
    | _ => true) = true) (h : vcG C N l st o K) : StepOp C N l.toArray st o K := by
  unfold vcG at h
  split at h
  · next hg => exact vcE_sound hT hg hst h
  · next j want hg =>
    split at h
    · next s hs =>
      split at h
      · next t hgt =>
        obtain ⟨hd, hc⟩ := guardB_out h
        rw [Bool.and_eq_true] at hd
        rintro F a w Q hG hN ⟨ρ, hsat⟩
        have hty : a.tmps.getD s undef = .bool t := by
          have := (hsat.tm s).now
          rw [hgt] at this
          exact this.2
        have hslt : s < a.tmps.size := by rw [hsat.nt, hN]; exact blt_lt hd.1
        have hy : yielded l.toArray a.tmps j = some t := by
          unfold yielded
          unfold slotOf at hs
          rw [List.getElem?_toArray, hs]
          have : a.tmps[s]? = some (.bool t) := by
            rw [Array.getD_eq_getD_getElem?, Array.getElem?_eq_getElem hslt] at hty
            rw [Array.getElem?_eq_getElem hslt]
            exact congrArg some hty
          simp [this]
        have hsat' : SatE F ρ { st with tm := (s, bool t) :: st.tm } a w := by
          refine ⟨hsat.dfr, hsat.nt, fun q ρ' w' k1 k2 => ?_, hsat.own, hsat.inj, hsat.base, hsat.dis, hsat.below, hsat.gl, hsat.oo⟩
          show (gt ((s, bool t) :: st.tm) q).at ρ' w' _
          rw [gt_cons]
          split
          · next e => subst e; rw [hty]; exact ⟨rfl, rfl⟩
          · exact hsat.tm q ρ' w' k1 k2
        have hc := hc.get
        by_cases htw : t = want
        · rw [(show (t == want) = true from beq_iff_eq.2 htw)] at hc
          exact opWp_guard (by simp [Region.wanted, hg, hy, htw]) (vcE_sound (o := { o with guard := none }) hT rfl hst hc F a w Q hG hN ⟨ρ, hsat'⟩)
        · rw [(show (t == want) = false from beq_eq_false_iff_ne.2 htw)] at hc
          unfold opWp
          rw [if_neg (by simp [Region.wanted, hg, hy, htw])]
          exact ⟨_, hc, hsat'.add (r := ⟨.tup [], none⟩) ⟨Below.refl _ _, fun _ _ _ _ => ⟨[], rfl, trivial⟩⟩ (by rw [hN]; exact hd.2)⟩
      · next hgt =>
        obtain ⟨hd, hc⟩ := guardB_out h
        rw [Bool.and_eq_true] at hd
        rintro F a w Q hG hN ⟨ρ, hsat⟩
        have hty : a.tmps.getD s undef = .tuple #[] := by
          obtain ⟨vs, e, hv⟩ := (show (AV.tup []).at ρ w (a.tmps.getD s undef) by rw [← hgt]; exact (hsat.tm s).now)
          cases vs with
          | nil => exact e
          | cons => exact hv.elim
        have hslt : s < a.tmps.size := by rw [hsat.nt, hN]; exact blt_lt hd.1
        have hy : yielded l.toArray a.tmps j = none := by
          unfold yielded
          unfold slotOf at hs
          rw [List.getElem?_toArray, hs]
          have : a.tmps[s]? = some (.tuple #[]) := by
            rw [Array.getD_eq_getD_getElem?, Array.getElem?_eq_getElem hslt] at hty
            rw [Array.getElem?_eq_getElem hslt]
            exact congrArg some hty
          simp [this]
        unfold opWp
        rw [if_neg (by simp [Region.wanted, hg, hy])]
        exact ⟨_, hc, hsat.add (r := ⟨.tup [], none⟩) ⟨Below.refl _ _, fun _ _ _ _ => ⟨[], rfl, trivial⟩⟩ (by rw [hN]; exact hd.2)⟩
      · exact h.elim
    · exact h.elim
theorem vcSeq_sound (hT : TysOk C.P C.tys) {l : List Oper} {Q : Exit → Act → World → Prop} (hG : F.G = C.G) (hN : F.nt = N.nt) : ∀ {r : List Oper} {st : St} {a : Act} {w : World}, storesOk r = true → vcSeq C N l r st K → (∀ st' a' w', K st' → Sat F st' a' w' → Q .normal a' w') → Sat F st a w → wpList C.P l.toArray Q r a w
  | [], st, a, w, _, h, hQ, hs => hQ st a w h hs
  | o :: r, st, a, w, hst, h, hQ, hs => by
    have h1 := vcG_sound hT (storesOk_mem hst (List.mem_cons_self ..)) h F a w Q hG hN hs
    have hst' : storesOk r = true := by
      unfold storesOk at hst ⊢
      rw [List.all_cons, Bool.and_eq_true] at hst
      exact hst.2
    have h2 := opWp_mono (K' := wpList C.P l.toArray Q r) (fun a' w' ⟨st', k1, k2⟩ => vcSeq_sound hT hG hN hst' k1 hQ k2) h1
    exact h2
end
end Go.VG

/- States in letters: regions that draw their order. -/
namespace Go.VG
open Go Go.RowKit

section
variable {P : Program} {ops : Array Oper} {Q : Exit → Act → World → Prop} {md : Region.Mode}
theorem wpAny_inv_tail {n g : Nat} (hg : n + g = ops.size) (hg0 : 0 < g) (hs : Region.sinkB md ops n = true) (hc : Region.chainB md ops n = true) (hbk : Region.backward md ops = true)
    (Inv : Array Bool → Act → World → Prop)
    (step : ∀ listed i a w, i < n → i ∈ Region.ready md ops listed → HeadInv md ops n listed → Inv listed a w → wpOp P ops Q i (Inv (listed.setIfInBounds i true)) a w)
    (done : ∀ a w, Inv (headDone n ops.size) a w → wpAny P md ops Q g (headDone n ops.size) a w) :
    ∀ (k : Nat) (listed : Array Bool) (a : Act) (w : World), HeadInv md ops n listed → Inv listed a w → (List.range n).countP (fun i => !listed.getD i true) = k → wpAny P md ops Q (k + g) listed a w
  | 0, listed, a, w, inv, hI, hk => by
    have hall : ∀ i, i < n → listed.getD i true = true := fun i hi => by
      have := (List.countP_eq_zero.1 hk) i (List.mem_range.2 hi)
      simpa using this
    have e := headDone_eq inv (by omega) hall
    rw [Nat.zero_add, e]
    exact done a w (e ▸ hI)
  | k + 1, listed, a, w, inv, hI, hk => by
    have hsz := inv.size
    obtain ⟨i0, h0, h1⟩ : ∃ i0, i0 < n ∧ listed.getD i0 true = false := by
      have hpos : 0 < (List.range n).countP (fun i => !listed.getD i true) := by omega
      obtain ⟨i0, hm, hp⟩ := List.countP_pos_iff.1 hpos
      exact ⟨i0, List.mem_range.1 hm, by simpa using hp⟩
    rw [show k + 1 + g = (k + g) + 1 by omega]
    refine ⟨fun hr => ?_, fun i hi => ?_⟩
    · have := ready_some hbk hr i0 (by omega)
      rw [this] at h1
      cases h1
    · have hin : i < n := by
        rcases Nat.lt_or_ge i n with h | h
        · exact h
        · exact absurd hi (tail_waits hs hc (by omega) inv _ i0 rfl h0 h1 i h)
      obtain ⟨h2, h3, h4⟩ := ready_mem hi
      refine wpOp_mono ?_ (step listed i a w hin hi inv hI)
      intro a' w' hI'
      refine wpAny_inv_tail hg hg0 hs hc hbk Inv step done k _ a' w' (inv.set hi hin) hI' ?_
      have := countP_one (p := fun j => !listed.getD j true) (q := fun j => !(listed.setIfInBounds i true).getD j true) List.nodup_range (List.mem_range.2 hin) (by rw [h3]; rfl) (by rw [getD_set_at (by omega)]; rfl) (fun j hj => by rw [getD_set_other hj])
      omega
theorem Oper.wp_turn {o : Oper} {a : Act} {w : World} {K K' : Act → World → Prop} {Q' : Exit → Act → World → Prop} (h : ∀ a w, K a w → K' a w) (hQ : ∀ c a w, Q' (.panic c) a w → Q (.panic c) a w) (ho : LetsOut Q' → LetsOut Q)
    (hh : o.wp P a w K Q') : o.wp P a w K' Q := by
  unfold Oper.wp at *
  generalize (execOp a.eval o).run P w = r at *
  cases r with
  | ok n w' =>
    cases n <;> simp only [Oper.upon] at hh ⊢ <;>
      first
        | exact h _ _ hh
        | exact Calls.mono hh (fun e w'' he => by cases e <;> first | exact h _ _ he | exact hQ _ _ _ he | exact ho he)
        | exact Rows.mono hh (fun _ _ he => h _ _ he)
        | exact hh
  | halt x w' => cases x <;> simp only [Oper.upon] at hh ⊢ <;> first | exact hQ _ _ _ hh | exact hh
def guardsIn (l : List Oper) (n : Nat) : Bool := l.all fun o => match o.guard with
  | none => true
  | some (j, _) => Nat.blt j n
theorem getD_extract {listed : Array Bool} {n j : Nat} (hj : j < n) (hn : n ≤ listed.size) (d : Bool) : (listed.extract 0 n).getD j d = listed.getD j d := by
  simp only [Array.getD_eq_getD_getElem?, Array.getElem?_extract]
  rw [if_pos (by omega), Nat.zero_add]
theorem extract_set {listed : Array Bool} {n i : Nat} (hi : i < n) (hn : n ≤ listed.size) : (listed.setIfInBounds i true).extract 0 n = (listed.extract 0 n).setIfInBounds i true := by
  apply Array.ext_getElem?
  intro j
  simp only [Array.getElem?_extract, Array.getElem?_setIfInBounds, Array.size_extract, Array.size_setIfInBounds, Nat.zero_add]
  by_cases hj : j < n
  · rw [if_pos (by omega)]
    by_cases e : i = j
    · subst e
      rw [if_pos rfl, if_pos rfl, if_pos (by omega), if_pos (by omega)]
    · rw [if_neg e, if_neg e, if_pos (by omega)]
  · rw [if_neg (by omega), if_neg (by omega), if_neg (by omega)]
theorem wpAny_split {l : List Oper} {n : Nat} (hn : n < l.length) (hs : Region.sinkB md l.toArray n = true) (hc : Region.chainB md l.toArray n = true) (hbk : Region.backward md l.toArray = true) (hgd : guardsIn (l.take n) n = true) {a : Act} {w : World}
    (h : wpAny P md (l.take n).toArray (fun e a w => match e with
      | .normal => wpAny P md l.toArray Q (l.length - n) (headDone n l.toArray.size) a w
      | e => Q e a w) (l.take n).toArray.size (Array.replicate (l.take n).toArray.size false) a w) : wpAny P md l.toArray Q l.toArray.size (Array.replicate l.toArray.size false) a w := by
  have hsz : l.toArray.size = l.length := by simp
  have hsn : (l.take n).toArray.size = n := by simp; omega
  have hto : ∀ i, i < n → (l.take n).toArray[i]? = l.toArray[i]? := fun i hi => by simp [hi]
  have hcnt : (List.range n).countP (fun i => !(Array.replicate l.toArray.size false).getD i true) = n := by
    rw [List.countP_eq_length.2 fun i hi => ?_, List.length_range]
    have : i < l.toArray.size := by have := List.mem_range.1 hi; omega
    rw [getD_in (by simpa using this) (getD_replicate_false _ _)]
    rfl
  have hinv0 : HeadInv md l.toArray n (Array.replicate l.toArray.size false) := ⟨by simp, fun j oj _ hl => (by rw [getD_replicate_false] at hl; cases hl), fun t _ ht => getD_in (by simpa using ht) (getD_replicate_false _ _)⟩
  have key := wpAny_inv_tail (P := P) (Q := Q) (md := md) (n := n) (g := l.length - n) (ops := l.toArray) (by omega) (by omega) hs hc hbk
    (fun listed a w => wpAny P md (l.take n).toArray (fun e a w => match e with
      | .normal => wpAny P md l.toArray Q (l.length - n) (headDone n l.toArray.size) a w
      | e => Q e a w) ((List.range n).countP (fun i => !listed.getD i true)) (listed.extract 0 n) a w)
    (fun listed i a w hin hr hinv hI => ?_) (fun a w hI => ?_) n _ a w hinv0 ?_ hcnt
  · rwa [show n + (l.length - n) = l.toArray.size by omega] at key
  · have hls : n ≤ listed.size := by rw [hinv.size]; omega
    obtain ⟨hi1, oi, hoi, hall⟩ := mem_ready.1 hr
    have hrn : i ∈ Region.ready md (l.take n).toArray (listed.extract 0 n) := by
      refine mem_ready.2 ⟨by rw [getD_extract hin hls]; exact hi1, oi, by rw [hto i hin]; exact hoi, fun e he hb => ?_⟩
      have hlt : e.on < i := by
        have := List.all_eq_true.1 hbk i (List.mem_range.2 (by omega))
        rw [hoi] at this
        have h2 := Array.all_eq_true_iff_forall_mem.1 this e he
        rw [hb] at h2
        simpa using h2
      rw [getD_extract (by omega) hls]
      exact hall e he hb
    obtain ⟨c, hcc⟩ : ∃ c, (List.range n).countP (fun i => !listed.getD i true) = c + 1 := by
      have : 0 < (List.range n).countP (fun i => !listed.getD i true) := List.countP_pos_iff.2 ⟨i, List.mem_range.2 hin, by rw [hi1]; rfl⟩
      exact ⟨_, (Nat.sub_add_cancel this).symm⟩
    have hc2 : (List.range n).countP (fun j => !(listed.setIfInBounds i true).getD j true) = c := by
      have := countP_one (p := fun j => !listed.getD j true) (q := fun j => !(listed.setIfInBounds i true).getD j true) List.nodup_range (List.mem_range.2 hin) (by rw [hi1]; rfl) (by rw [getD_set_at (by omega)]; rfl) (fun j hj => by rw [getD_set_other hj])
      omega
    rw [hcc] at hI
    have hop := hI.2 i hrn
    unfold wpOp at hop ⊢
    rw [hto i hin, hoi] at hop
    rw [hoi]
    simp only at hop ⊢
    have hy : Region.wanted oi (yielded (l.take n).toArray a.tmps) = Region.wanted oi (yielded l.toArray a.tmps) := by
      unfold Region.wanted
      cases hg : oi.guard with
      | none => rfl
      | some p =>
        obtain ⟨j, want⟩ := p
        have hmem : oi ∈ l.take n := by
          have h3 := hto i hin
          rw [hoi] at h3
          rw [List.getElem?_toArray] at h3
          exact List.mem_of_getElem? h3
        have h2 := List.all_eq_true.1 hgd oi hmem
        rw [hg] at h2
        have hj : j < n := by simpa using h2
        show (yielded _ _ j == _) = (yielded _ _ j == _)
        unfold yielded
        rw [hto j hj]
    rw [hy] at hop
    rw [hc2, extract_set hin hls]
    split
    · next hw =>
      rw [if_pos hw] at hop
      exact hop.imp (Oper.wp_turn (fun _ _ h => h) (fun _ _ _ h => h) fun h => h) fun ⟨h1, h2⟩ => ⟨h1, h2⟩
    · next hw =>
      rw [if_neg hw] at hop
      exact hop
  · have h0 : (List.range n).countP (fun i => !(headDone n l.toArray.size).getD i true) = 0 := by
      refine List.countP_eq_zero.2 fun i hi => ?_
      have hi := List.mem_range.1 hi
      unfold headDone
      rw [Array.getD_eq_getD_getElem?, Array.getElem?_append_left (by simp; omega)]
      simp [hi]
    rw [h0] at hI
    exact hI.2
  · rw [hcnt]
    rw [hsn] at h
    have e : (Array.replicate l.toArray.size false).extract 0 n = Array.replicate n false := by
      apply Array.ext_getElem?
      intro j
      simp only [Array.getElem?_extract, Array.getElem?_replicate, Array.size_replicate]
      by_cases hj : j < n
      · rw [if_pos (by omega), if_pos (by omega), if_pos hj]
      · rw [if_neg (by omega), if_neg hj]
    rw [e]
    exact h
theorem wpAny_inv_all (hbk : Region.backward md ops = true) (Inv : Array Bool → Act → World → Prop)
    (step : ∀ listed i a w, i < ops.size → i ∈ Region.ready md ops listed → HeadInv md ops ops.size listed → Inv listed a w → wpOp P ops Q i (Inv (listed.setIfInBounds i true)) a w)
    (done : ∀ listed a w, (∀ i, i < ops.size → listed.getD i false = true) → Inv listed a w → Q .normal a w) :
    ∀ (k : Nat) (listed : Array Bool) (a : Act) (w : World), HeadInv md ops ops.size listed → Inv listed a w → (List.range ops.size).countP (fun i => !listed.getD i true) = k → wpAny P md ops Q k listed a w
  | 0, listed, a, w, inv, hI, hk => by
    have hall : ∀ i, i < ops.size → listed.getD i true = true := fun i hi => by
      have := (List.countP_eq_zero.1 hk) i (List.mem_range.2 hi)
      simpa using this
    refine ⟨ready_nil hall, done listed a w (fun i hi => ?_) hI⟩
    have hi' : i < listed.size := by rw [inv.size]; exact hi
    have := hall i hi
    unfold Array.getD at this ⊢
    rw [dif_pos hi'] at this ⊢
    exact this
  | k + 1, listed, a, w, inv, hI, hk => by
    have hsz := inv.size
    obtain ⟨i0, h0, h1⟩ : ∃ i0, i0 < ops.size ∧ listed.getD i0 true = false := by
      have hpos : 0 < (List.range ops.size).countP (fun i => !listed.getD i true) := by omega
      obtain ⟨i0, hm, hp⟩ := List.countP_pos_iff.1 hpos
      exact ⟨i0, List.mem_range.1 hm, by simpa using hp⟩
    refine ⟨fun hr => ?_, fun i hi => ?_⟩
    · have := ready_some hbk hr i0 h0
      rw [this] at h1
      cases h1
    · obtain ⟨h2, h3, h4⟩ := ready_mem hi
      refine wpOp_mono ?_ (step listed i a w h2 hi inv hI)
      intro a' w' hI'
      refine wpAny_inv_all hbk Inv step done k _ a' w' (inv.set hi h2) hI' ?_
      have := countP_one (p := fun j => !listed.getD j true) (q := fun j => !(listed.setIfInBounds i true).getD j true) List.nodup_range (List.mem_range.2 h2) (by rw [h3]; rfl) (by rw [getD_set_at (by omega)]; rfl) (fun j hj => by rw [getD_set_other hj])
      omega
end

def dep1 (o : Oper) : List Nat := (o.after.toList.filter fun e => Region.binds .any e).map (·.on)
def maskOf (acc : List Nat) (o : Oper) : Nat := (dep1 o).foldl (fun s j => s ||| (1 <<< j) ||| acc.getD j 0) 0
def masks : List Oper → List Nat → List Nat
  | [], acc => acc
  | o :: l, acc => masks l (acc ++ [maskOf acc o])
def masksOk (ops : List Oper) (n : Nat) (ms : List Nat) : Bool :=
  (List.range n).all fun i => match ops[i]? with
    | some o => Nat.blt (ms.getD i 0) (2 ^ i) && (dep1 o).all (fun k => Nat.blt k i) && (List.range i).all fun j => !(ms.getD i 0).testBit j || (dep1 o).any (fun k => Nat.beq k j || (ms.getD k 0).testBit j)
    | none => false
theorem masksOk_at {ops : List Oper} {n : Nat} {ms : List Nat} (h : masksOk ops n ms = true) {i : Nat} (hi : i < n) : ∃ o, ops[i]? = some o ∧ (∀ j, (ms.getD i 0).testBit j = true → j < i) ∧ (∀ k ∈ dep1 o, k < i) ∧
    ∀ j, (ms.getD i 0).testBit j = true → ∃ k ∈ dep1 o, k = j ∨ (ms.getD k 0).testBit j = true := by
  have hm := List.all_eq_true.1 h i (List.mem_range.2 hi)
  cases ho : ops[i]? with
  | none => rw [ho] at hm; cases hm
  | some o =>
    rw [ho] at hm
    simp only [Bool.and_eq_true] at hm
    obtain ⟨⟨h1, h2⟩, h3⟩ := hm
    have hlow : ∀ j, (ms.getD i 0).testBit j = true → j < i := fun j hj => by
      rcases Nat.lt_or_ge j i with hlt | hge
      · exact hlt
      · rw [Nat.testBit_lt_two_pow (Nat.lt_of_lt_of_le (blt_lt h1) (Nat.pow_le_pow_right (by omega) hge))] at hj
        cases hj
    refine ⟨o, rfl, hlow, fun k hk => blt_lt (List.all_eq_true.1 h2 k hk), fun j hj => ?_⟩
    have h4 := List.all_eq_true.1 h3 j (List.mem_range.2 (hlow j hj))
    rw [hj] at h4
    simp only [Bool.not_true, Bool.false_or] at h4
    obtain ⟨k, hk, hkj⟩ := List.any_eq_true.1 h4
    rw [Bool.or_eq_true] at hkj
    exact ⟨k, hk, hkj.imp Nat.eq_of_beq_eq_true id⟩
def dsOk : List (Option Nat) → Bool
  | [] => true
  | d :: ds => (match d with
    | some d => !ds.any fun e => match e with
      | some e => Nat.beq e d
      | none => false
    | none => false) && dsOk ds
def drawB (ops : List Oper) (n : Nat) (ms : List Nat) : Bool :=
  (match Nat.beq n ops.length with
    | true => Region.backward .any ops.toArray
    | false => Region.factsB ops n) && masksOk ops n ms && dsOk ((ops.take n).map (·.dst)) && storesOk (ops.drop n)
def pick (rs : List Res) (sel : Nat → Bool) (k : Nat) : AV :=
  match rs[k]? with
  | some r => bif sel k then r.av else .any
  | none => .any
def tmH : List (Option Nat) → List Res → (Nat → Bool) → Nat → List (Nat × AV) → List (Nat × AV)
  | [], _, _, _, base => base
  | some d :: ds, rs, sel, k, base => (d, pick rs sel k) :: tmH ds rs sel (k + 1) base
  | none :: ds, rs, sel, k, base => tmH ds rs sel (k + 1) base
def ownH : Nat → List Res → (Nat → Bool) → Nat → List (Nat × Blk) → List (Nat × Blk)
  | 0, _, _, _, base => base
  | n + 1, rs, sel, k, base => match rs[k]? with
    | some ⟨_, some p⟩ => bif sel k then p :: ownH n rs sel (k + 1) base else ownH n rs sel (k + 1) base
    | _ => ownH n rs sel (k + 1) base
def stH (st : St) (ds : List (Option Nat)) (rs : List Res) (sel : Nat → Bool) (nx : Nat) : St := ⟨tmH ds rs sel 0 st.tm, ownH ds.length rs sel 0 st.own, nx⟩
def resOk (st : St) (q : Nat) (r : Res) : Bool := match r.own with
  | some p => Nat.beq p.1 (st.nx + q) && (og st.own p.1).isNone
  | none => true
def EmpV (v : Value) : Prop := ∃ g, v = .slice (some ⟨g, 0, none⟩) 0 0
structure EmpOb (φ : World → Value → Prop) (K : Prop) : Prop where
  e : φ = fun _ v => EmpV v
  k : K
def usedBy (x : Nat) : Operand → Bool
  | .tmp t => Nat.beq t x
  | _ => false
def empU (d : Nat) (ops : List Oper) (o : Oper) : Bool := match o.op with
  | .call ⟨.builtin .append, args, _⟩ => match args.toList, o.dst with
    | s :: _, some d2 => usedBy d s && ops.any fun o2 => match o2.op with
      | .call ⟨.value (.func _), args2, _⟩ => args2.toList.any (usedBy d2)
      | _ => false
    | _, _ => false
  | _ => false
def empB (ops : List Oper) (d : Option Nat) : Bool := match d with
  | some d => ops.any (empU d ops)
  | none => false
def vcEmp (C : Ctx) (ops : List Oper) (st : St) (o : Oper) (K : Res → Prop) : Prop :=
  match o.op with
  | .buildSlice t n parts => match empB ops o.dst with
    | true => match tg C.tys t with
      | some ⟨.slice e, _, _, _⟩ => match tg C.tys e with
        | some _ => guardB (Nat.beq n 0 && parts.toList.isEmpty) (K ⟨.v (.c (.p fun _ v => EmpV v)), none⟩)
        | none => False
      | _ => False
    | false => vc1 C st (.buildSlice t n parts) K
  | .call ⟨.builtin .append, args, ts⟩ => match args.toList, ts.toList with
    | [s, x], [t, t'] => match ev st s with
      | .v (.c (.p φ)) => match ev st x with
        | .v (.c (.sl k β mk Y m)) => match tg C.tys t with
          | some ⟨.slice e, _, _, _⟩ => match tg C.tys e with
            | some dd => guardB (Nat.beq t t' && Nat.beq k dd.size && Nat.ble 1 dd.size && Nat.ble dd.bytes 256) (EmpOb φ (Ob (m ≤ 274877906944) (K ⟨.v (.c (.sl k β mk Y m)), none⟩)))
            | none => False
          | _ => False
        | _ => False
      | _ => False
    | _, _ => False
  | op => vc1 C st op K
def vcH1 (C : Ctx) (ops : List Oper) (st : St) (o : Oper) (K : Res → Prop) : Prop :=
  match o.guard with
  | none => vcEmp C ops st o K
  | some (j, want) => match slotOf ops j with
    | some s => match gt st.tm s with
      | .v (.c (.x (.bool t))) => Cases t fun tb => bif tb == want then vc1 C st o.op K else K ⟨.tup [], none⟩
      | .tup [] => K ⟨.tup [], none⟩
      | _ => False
    | none => False
def looks (ops : List Oper) (o : Oper) : List Nat :=
  (match o.guard with
    | some (j, _) => (slotOf ops j).toList
    | none => []) ++ o.op.operands.toList.filterMap fun | .tmp t => some t | _ => none
def stI (st : St) (ds : List (Option Nat)) (rs : List Res) (m : Nat) (i : Nat) (ops : List Oper) (o : Oper) : St :=
  { tm := (looks ops o).map fun t => (t, gt (tmH ds rs (fun j => m.testBit j) 0 st.tm) t), own := ownH ds.length rs (fun j => m.testBit j) 0 st.own, nx := st.nx + i }
def vcHead (C : Ctx) (ops : List Oper) (ds : List (Option Nat)) (ms : List Nat) (st : St) : Nat → List Oper → List Res → (List Res → Prop) → Prop
  | _, [], rs, K => K rs
  | i, o :: l, rs, K => guardB (closedB (stI st ds rs (ms.getD i 0) i ops o)) (vcH1 C ops (stI st ds rs (ms.getD i 0) i ops o) o fun r => guardB (resOk st i r) (vcHead C ops ds ms st (i + 1) l (rs ++ [r]) K))
def forceL : List Leaf → (List Leaf → Prop) → Prop
  | [], K => K []
  | l :: ls, K => match l with
    | .x (.int k n) => forceL ls fun m => K (.x (.int k n) :: m)
    | l => forceL ls fun m => K (l :: m)
def force (a : AV) (K : AV → Prop) : Prop := match a with
  | .v (.c (.x (.int k n))) => K (.v (.c (.x (.int k n))))
  | .v (.c (.x (.bool b))) => K (.v (.c (.x (.bool b))))
  | .v (.c (.loc b o)) => K (.v (.c (.loc b o)))
  | .v (.c l) => K (.v (.c l))
  | .v (.agg ls) => forceL ls fun m => K (.v (.agg m))
  | a => K a
theorem forceL_eq : ∀ (ls : List Leaf) (K : List Leaf → Prop), forceL ls K = K ls
  | [], _ => rfl
  | l :: ls, K => by
    unfold forceL
    split <;> exact forceL_eq ls _
theorem force_eq (a : AV) (K : AV → Prop) : force a K = K a := by
  unfold force
  split <;> first | rfl | exact forceL_eq _ _
def fastOk (ops : List Oper) (n : Nat) (ms : List Nat) : Bool :=
  (List.range n).all fun i => match ops[i]? with
    | some o => (looks ops o).all fun t => (List.range n).all fun j => match ops[j]? with
      | some o' => match o'.dst with
        | some d => !Nat.beq d t || ((ms.getD i 0).testBit j && Nat.blt j i)
        | none => true
      | none => true
    | none => false
def vcFast (C : Ctx) (ops : List Oper) (st : St) : Nat → List Oper → List (Nat × AV) → (St → Prop) → Prop
  | i, [], pre, K => K ⟨pre.reverse ++ st.tm, st.own, st.nx + i⟩
  | i, o :: l, pre, K => guardB (closedB ⟨(looks ops o).map fun t => (t, gt (pre ++ st.tm) t), st.own, st.nx + i⟩) (vcH1 C ops ⟨(looks ops o).map fun t => (t, gt (pre ++ st.tm) t), st.own, st.nx + i⟩ o fun r => guardB r.own.isNone (match o.dst with
    | some d => force r.av fun a => vcFast C ops st (i + 1) l ((d, a) :: pre) K
    | none => False))
def dsOk2 : List (Option Nat) → Bool
  | [] => true
  | some d :: ds => (!ds.any fun e => match e with
      | some e => Nat.beq e d
      | none => false) && dsOk2 ds
  | none :: ds => dsOk2 ds
def stJ (st : St) (pre : List (Nat × AV)) (i : Nat) (ops : List Oper) (o : Oper) (b k : Nat) : St :=
  { tm := (looks ops o).map fun t => (t, gt (pre ++ st.tm) t), own := oset st.own b (.st (List.replicate k .any)), nx := st.nx + i }
def addO : Option (Nat × Blk) → List (Nat × Blk) → List (Nat × Blk)
  | some p, l => p :: l
  | none, l => l
def vcFastS (C : Ctx) (ops : List Oper) (st : St) (q b k : Nat) : Nat → List Oper → List (Nat × AV) → List (Nat × Blk) → (List (Nat × AV) → List (Nat × Blk) → Prop) → Prop
  | _, [], pre, own, K => K pre own
  | i, o :: l, pre, own, K => match Nat.beq i q with
    | true => vcFastS C ops st q b k (i + 1) l pre own K
    | false => guardB (closedB (stJ st pre i ops o b k)) (vcH1 C ops (stJ st pre i ops o b k) o fun r => guardB (resOk st i r) (match o.dst with
      | some d => force r.av fun a => vcFastS C ops st q b k (i + 1) l ((d, a) :: pre) (addO r.own own) K
      | none => False))
def storeAt (ops : List Oper) (q : Nat) : Option (TypeId × Nat × Nat) := match ops[q]? with
  | some o => match o.op, o.guard, o.dst with
    | .store t (.tmp x) (.tmp y), none, none => some (t, x, y)
    | _, _, _ => none
  | none => none
def lookB (ops : List Oper) (ms : List Nat) (q x : Nat) : Bool := (List.range ops.length).all fun j => match ops[j]? with
  | some o' => match o'.dst with
    | some d => !Nat.beq d x || (ms.getD q 0).testBit j
    | none => true
  | none => true
def lookR (ops : List Oper) (ms : List Nat) (i x : Nat) : Bool := (List.range ops.length).all fun j => match ops[j]? with
  | some o' => match o'.dst with
    | some d => !Nat.beq d x || ((ms.getD i 0).testBit j || (ms.getD j 0).testBit i || Nat.beq j i)
    | none => true
  | none => true
def drawSB (ops : List Oper) (ms : List Nat) (q : Nat) : Bool :=
  Region.backward .any ops.toArray && masksOk ops ops.length ms && dsOk2 (ops.map (·.dst)) && (match storeAt ops q with
    | some (_, x, y) => Nat.blt q ops.length && lookB ops ms q x && lookB ops ms q y
    | none => Nat.beq q ops.length) && (List.range ops.length).all fun i => Nat.beq i q || match ops[i]? with
      | some o => (looks ops o).all fun t => lookR ops ms i t
      | none => false
def finS (ops : List Oper) (st : St) (b k x y : Nat) (d : TyD) (pre : List (Nat × AV)) (own : List (Nat × Blk)) (K : St → Prop) : Prop :=
  match leaves (gt (pre ++ st.tm) y), gt (pre ++ st.tm) x, og (own ++ st.own) b with
  | some l, .v (.c (.loc b' 0)), some (.st ls0) => guardB (Nat.beq b' b && l.all leafNou && Nat.beq l.length d.size && Nat.beq l.length k && Nat.beq ls0.length k) (K { tm := pre ++ st.tm, own := oset (own ++ st.own) b (.st l), nx := st.nx + ops.length })
  | _, _, _ => False
def tgtJ (ops : List Oper) (x : Nat) : Option Nat := (List.range ops.length).find? fun j => match ops[j]? with
  | some o => match o.dst with
    | some d => Nat.beq d x
    | none => false
  | none => false
def tgtB (ops : List Oper) (st : St) (x : Nat) : Option (Nat × Bool) :=
  match tgtJ ops x with
  | some j => some (st.nx + j, true)
  | none => match gt st.tm x with
    | .v (.c (.loc b _)) => some (b, false)
    | _ => none
def vcS (C : Ctx) (ops : List Oper) (st : St) (q : Nat) (K : St → Prop) : Prop :=
  match storeAt ops q with
  | some (t, x, y) => match tg C.tys t with
    | some d => match tgtB ops st x with
      | some (b, u) => guardB (u || (og st.own b).isSome) (vcFastS C ops st q b d.size 0 ops [] [] fun pre own => finS ops st b d.size x y d pre own K)
      | none => False
    | none => False
  | none => guardB (og st.own (st.nx + ops.length)).isNone (vcFastS C ops st q (st.nx + ops.length) 0 0 ops [] [] fun pre own => K { tm := pre ++ st.tm, own := own ++ st.own, nx := st.nx + ops.length + 1 })
structure StoreOb (C : Ctx) (N : Fnx) (ops : List Oper) (st : St) (K : St → Prop) : Prop where
  w : ∃ (q : Nat) (ms : List Nat), drawSB ops ms q = true ∧ (ops.all fun o => dstOk N.nt o.dst) = true ∧ vcS C ops st q K
def jkR : Res → Res
  | ⟨av, some (b, .st ls)⟩ => ⟨av, some (b, .st (List.replicate ls.length .any))⟩
  | r => r
def jkI (p0 i : Nat) (r : Res) : Res := bif Nat.beq i p0 then jkR r else r
def vcFastZ (C : Ctx) (ops : List Oper) (st : St) (q p p0 b k : Nat) : Nat → List Oper → List (Nat × AV) → List (Nat × Blk) → (List (Nat × AV) → List (Nat × Blk) → Prop) → Prop
  | _, [], pre, own, K => K pre own
  | i, o :: l, pre, own, K => match Nat.beq i q || Nat.beq i p with
    | true => vcFastZ C ops st q p p0 b k (i + 1) l pre own K
    | false => guardB (closedB (stJ st pre i ops o b k)) (vcH1 C ops (stJ st pre i ops o b k) o fun r => guardB (resOk st i (jkI p0 i r)) (match o.dst with
      | some d => force (jkI p0 i r).av fun a => vcFastZ C ops st q p p0 b k (i + 1) l ((d, a) :: pre) (addO (jkI p0 i r).own own) K
      | none => False))
def drawZB (ops : List Oper) (ms : List Nat) (q p : Nat) : Bool :=
  Region.backward .any ops.toArray && masksOk ops ops.length ms && dsOk2 (ops.map (·.dst)) && (match storeAt ops q with
    | some (_, x, y) => Nat.blt q ops.length && lookB ops ms q x && lookB ops ms q y
    | none => false) && (match storeAt ops p with
    | some (_, x, y) => Nat.blt p ops.length && lookB ops ms p x && lookB ops ms p y
    | none => false) && !Nat.beq p q && (List.range ops.length).all fun i => (Nat.beq i q || Nat.beq i p) || match ops[i]? with
      | some o => (looks ops o).all fun t => lookR ops ms i t
      | none => false
def isAny : Leaf → Bool
  | .any => true
  | _ => false
def junkOk (C : Ctx) (ops : List Oper) (st : St) (p p0 b : Nat) (pre : List (Nat × AV)) (own : List (Nat × Blk)) : Bool :=
  match storeAt ops p with
  | some (t, x, y) => match tg C.tys t, leaves (gt (pre ++ st.tm) y), gt (pre ++ st.tm) x, og (own ++ st.own) (st.nx + p0) with
    | some d, some l, .v (.c (.loc b1 0)), some (.st ls) => Nat.beq b1 (st.nx + p0) && l.all leafNou && Nat.beq l.length d.size && Nat.beq l.length ls.length && ls.all isAny && !Nat.beq b1 b
    | _, _, _, _ => false
  | none => false
def vcZ (C : Ctx) (ops : List Oper) (st : St) (q p : Nat) (K : St → Prop) : Prop :=
  match storeAt ops q, storeAt ops p with
  | some (t, x, y), some (_, x1, _) => match tg C.tys t, tgtB ops st x, tgtJ ops x1 with
    | some d, some (b, u), some p0 => guardB (u || (og st.own b).isSome) (vcFastZ C ops st q p p0 b d.size 0 ops [] [] fun pre own => guardB (junkOk C ops st p p0 b pre own) (finS ops st b d.size x y d pre own K))
    | _, _, _ => False
  | _, _ => False
structure StoreZ (C : Ctx) (N : Fnx) (ops : List Oper) (st : St) (K : St → Prop) : Prop where
  w : ∃ (q p : Nat) (ms : List Nat), drawZB ops ms q p = true ∧ (ops.all fun o => dstOk N.nt o.dst) = true ∧ vcZ C ops st q p K
def isApp (o : Oper) : Bool := match o.op with
  | .call ⟨.builtin .append, _, _⟩ => true
  | _ => false
def appAt : List Oper → Nat
  | [] => 0
  | o :: l => bif isApp o then 0 else appAt l + 1
def drawAB (ops : List Oper) (n e : Nat) (ms : List Nat) : Bool :=
  Nat.blt e n && Region.factsB ops n && masksOk ops n ms && dsOk ((ops.take n).map (·.dst)) && storesOk (ops.drop n) && ((List.range n).all fun i => !(ms.getD i 0).testBit e) &&
    (List.range n).all fun i => !(ms.getD e 0).testBit i || (List.range n).all fun j => !(ms.getD i 0).testBit j || (ms.getD e 0).testBit j
def vcHA (C : Ctx) (ops : List Oper) (ds : List (Option Nat)) (ms : List Nat) (st : St) (me : Nat) : Nat → List Oper → List Res → (List Res → Prop) → Prop
  | _, [], rs, K => K rs
  | i, o :: l, rs, K => match me.testBit i with
    | true => guardB (closedB (stI st ds rs (ms.getD i 0) i ops o)) (vcH1 C ops (stI st ds rs (ms.getD i 0) i ops o) o fun r => guardB (resOk st i r) (vcHA C ops ds ms st me (i + 1) l (rs ++ [r]) K))
    | false => vcHA C ops ds ms st me (i + 1) l (rs ++ [⟨.any, none⟩]) K
def stX (st : St) (ds : List (Option Nat)) (rs : List Res) (m : Nat) (i b : Nat) (ops : List Oper) (o : Oper) : St :=
  { tm := (looks ops o).map fun t => (t, gt (tmH ds rs (fun j => m.testBit j) 0 st.tm) t), own := (oerase st.own b).map fun p => (p.1, scrubBlk b p.2), nx := st.nx + i }
def vcHX (C : Ctx) (ops : List Oper) (ds : List (Option Nat)) (ms : List Nat) (st : St) (me e b : Nat) : Nat → List Oper → List Res → (List Res → Prop) → Prop
  | _, [], rs, K => K rs
  | i, o :: l, rs, K => match me.testBit i || Nat.beq i e with
    | true => vcHX C ops ds ms st me e b (i + 1) l rs K
    | false => guardB (closedB (stX st ds rs (ms.getD i 0) i b ops o)) (vcH1 C ops (stX st ds rs (ms.getD i 0) i b ops o) o fun r => guardB (r.own.isNone && avB (stX st ds rs (ms.getD i 0) i b ops o).own r.av) (vcHX C ops ds ms st me e b (i + 1) l (rs.set i r) K))
def vcAp (C : Ctx) (N : Fnx) (ops : List Oper) (ms : List Nat) (st : St) (n e d : Nat) (s x : Operand) (t : TypeId) (K : St → Prop) : Prop :=
  vcHA C ops ((ops.take n).map (·.dst)) ms st (ms.getD e 0) 0 (ops.take n) [] fun rs =>
    match tg C.tys t with
    | some ⟨.slice el, _, _, _⟩ => match tg C.tys el with
      | some dd => match ev (stH st ((ops.take n).map (·.dst)) rs (fun j => (ms.getD e 0).testBit j) 0) x, ev (stH st ((ops.take n).map (·.dst)) rs (fun j => (ms.getD e 0).testBit j) 0) s with
        | .v (.c (.sl k' β mk' Y m)), .v (.c (.row b)) => match og (ownH ((ops.take n).map (·.dst)).length rs (fun j => (ms.getD e 0).testBit j) 0 st.own) b with
          | some (.rw k e' u α mk Z q) => guardB (Nat.beq k' dd.size && Nat.ble 1 dd.size && Nat.ble dd.bytes 256 && Nat.beq dd.zero.length dd.size && dd.zero.all nou && dd.zero.all Value.oneCell' && (og st.own (st.nx + n)).isNone)
              (guardB (Nat.beq k dd.size && Nat.beq e' el && !u) (Ob (q + m ≤ 274877906944) (AppOb k α mk β mk' Y m fun Y' =>
                vcHX C ops ((ops.take n).map (·.dst)) ms st (ms.getD e 0) e b 0 (ops.take n) rs fun rs' =>
                  vcSeq C N ops (ops.drop n) (appSt (stH st ((ops.take n).map (·.dst)) rs' (fun _ => true) (st.nx + n)) b (some d) (.rw k e' u α mk (appZ α Z Y' q) (q + m))) K)))
          | _ => False
        | _, _ => False
      | none => False
    | _ => False
def appE (ops : List Oper) (e : Nat) : Option (Nat × Operand × Operand × TypeId) := match ops[e]? with
  | some o => match o.guard, o.dst, o.op with
    | none, some d, .call ⟨.builtin .append, args, ts⟩ => match args.toList, ts.toList with
      | [s, x], [t, t'] => bif Nat.beq t t' then some (d, s, x, t) else none
      | _, _ => none
    | _, _, _ => none
  | none => none
structure AppdOb (C : Ctx) (N : Fnx) (ops : List Oper) (st : St) (K : St → Prop) : Prop where
  w : ∃ (n e : Nat) (ms : List Nat) (d : Nat) (s x : Operand) (t : TypeId), drawAB ops n e ms = true ∧ ((ops.take n).all fun o => dstOk N.nt o.dst) = true ∧ appE ops e = some (d, s, x, t) ∧ vcAp C N ops ms st n e d s x t K
structure TailOb (C : Ctx) (N : Fnx) (ops : List Oper) (st : St) (K : St → Prop) : Prop where
  w : ∃ n : Nat, (Region.factsB ops n && storesOk (ops.drop n) && guardsIn (ops.take n) n) = true ∧ (StoreOb C N (ops.take n) st (fun st' => vcSeq C N ops (ops.drop n) st' K) ∨ StoreZ C N (ops.take n) st fun st' => vcSeq C N ops (ops.drop n) st' K)
structure DrawOb (C : Ctx) (N : Fnx) (ops : List Oper) (st : St) (K : St → Prop) : Prop where
  w : StoreOb C N ops st K ∨ AppdOb C N ops st K ∨ TailOb C N ops st K ∨ ∃ (n : Nat) (ms : List Nat), drawB ops n ms = true ∧ ((ops.take n).all fun o => dstOk N.nt o.dst) = true ∧
    (vcHead C ops ((ops.take n).map (·.dst)) ms st 0 (ops.take n) [] (fun rs => vcSeq C N ops (ops.drop n) (stH st ((ops.take n).map (·.dst)) rs (fun _ => true) (st.nx + n)) K) ∨
      fastOk ops n ms = true ∧ vcFast C ops st 0 (ops.take n) [] fun st' => vcSeq C N ops (ops.drop n) st' K)

def HeadOk (C : Ctx) (ops : List Oper) (ds : List (Option Nat)) (ms : List Nat) (st : St) (rs : List Res) (q : Nat) : Prop :=
  ∃ o r, ops[q]? = some o ∧ rs[q]? = some r ∧ resOk st q r = true ∧ closedB (stI st ds rs (ms.getD q 0) q ops o) = true ∧ PureOp C ops.toArray (stI st ds rs (ms.getD q 0) q ops o) o r
theorem pick_congr {rs rs' : List Res} {sel : Nat → Bool} {k : Nat} (h : sel k = true → rs[k]? = rs'[k]?) : pick rs sel k = pick rs' sel k := by
  unfold pick
  cases hs : sel k with
  | true => rw [h hs]
  | false =>
    cases rs[k]? <;> cases rs'[k]? <;> rfl
theorem tmH_congr {rs rs' : List Res} {sel : Nat → Bool} : ∀ {ds : List (Option Nat)} {k : Nat} {base : List (Nat × AV)}, (∀ j, sel j = true → rs[j]? = rs'[j]?) → tmH ds rs sel k base = tmH ds rs' sel k base
  | [], _, _, _ => rfl
  | some d :: ds, k, base, h => by rw [tmH, tmH, pick_congr (h k), tmH_congr h]
  | none :: ds, k, base, h => by rw [tmH, tmH, tmH_congr h]
theorem ownH_congr {rs rs' : List Res} {sel : Nat → Bool} : ∀ {n k : Nat} {base : List (Nat × Blk)}, (∀ j, sel j = true → rs[j]? = rs'[j]?) → ownH n rs sel k base = ownH n rs' sel k base
  | 0, _, _, _ => rfl
  | n + 1, k, base, h => by
    rw [ownH, ownH, ownH_congr h]
    cases hs : sel k with
    | true => rw [h k hs]
    | false =>
      have : ∀ (x : Option Res), (match x with
        | some ⟨_, some p⟩ => bif false then p :: ownH n rs' sel (k + 1) base else ownH n rs' sel (k + 1) base
        | _ => ownH n rs' sel (k + 1) base) = ownH n rs' sel (k + 1) base := fun x => by
          cases x with
          | none => rfl
          | some r => obtain ⟨av, o⟩ := r; cases o <;> rfl
      rw [this, this]
theorem stI_congr {st : St} {ds : List (Option Nat)} {rs rs' : List Res} {m i : Nat} {ops : List Oper} {o : Oper} (h : ∀ j, m.testBit j = true → rs[j]? = rs'[j]?) : stI st ds rs m i ops o = stI st ds rs' m i ops o := by
  unfold stI
  rw [tmH_congr h, ownH_congr h]
theorem gt_tmH_in {rs : List Res} {sel : Nat → Bool} : ∀ {ds : List (Option Nat)} {k : Nat} {base : List (Nat × AV)} {j t : Nat}, dsOk ds = true → ds[j]? = some (some t) → gt (tmH ds rs sel k base) t = pick rs sel (k + j)
  | [], _, _, _, _, _, h => by simp at h
  | none :: ds, _, _, _, _, hd, _ => by simp [dsOk] at hd
  | some d :: ds, k, base, 0, t, hd, h => by
    simp at h
    subst h
    rw [tmH, gt_cons, if_pos rfl]
    rfl
  | some d :: ds, k, base, j + 1, t, hd, h => by
    have h' : ds[j]? = some (some t) := by simpa using h
    rw [dsOk, Bool.and_eq_true] at hd
    have hne : d ≠ t := by
      rintro rfl
      have := hd.1
      simp only [Bool.not_eq_true', List.any_eq_false] at this
      have := this _ (List.mem_of_getElem? h')
      simp only at this
      exact this (Nat.beq_refl d)
    rw [tmH, gt_cons, if_neg hne, gt_tmH_in hd.2 h', show k + 1 + j = k + (j + 1) by omega]
theorem gt_tmH_out {rs : List Res} {sel : Nat → Bool} : ∀ {ds : List (Option Nat)} {k : Nat} {base : List (Nat × AV)} {t : Nat}, (∀ j : Nat, ds[j]? ≠ some (some t)) → gt (tmH ds rs sel k base) t = gt base t
  | [], _, _, _, _ => rfl
  | none :: ds, k, base, t, h => by rw [tmH]; exact gt_tmH_out fun j => by simpa using h (j + 1)
  | some d :: ds, k, base, t, h => by
    have hne : d ≠ t := fun x => h 0 (by rw [x]; rfl)
    rw [tmH, gt_cons, if_neg hne]
    exact gt_tmH_out fun j => by simpa using h (j + 1)
theorem resOk_at {st : St} {q : Nat} {av : AV} {p : Nat × Blk} (h : resOk st q ⟨av, some p⟩ = true) : p.1 = st.nx + q ∧ og st.own p.1 = none := by
  have h' : (Nat.beq p.1 (st.nx + q) && (og st.own p.1).isNone) = true := h
  rw [Bool.and_eq_true] at h'
  exact ⟨Nat.eq_of_beq_eq_true h'.1, by simpa using h'.2⟩
theorem og_ownH_in {rs : List Res} {sel : Nat → Bool} {st : St} (hR : ∀ q r, rs[q]? = some r → resOk st q r = true) : ∀ {n k : Nat} {base : List (Nat × Blk)} {q : Nat} {av : AV} {b : Nat} {blk : Blk}, k ≤ q → q < k + n → rs[q]? = some ⟨av, some (b, blk)⟩ → sel q = true → og (ownH n rs sel k base) b = some blk
  | 0, _, _, _, _, _, _, h1, h2, _, _ => by omega
  | n + 1, k, base, q, av, b, blk, h1, h2, hq, hs => by
    have hb := (resOk_at (hR q _ hq)).1
    by_cases hk : k = q
    · subst hk
      rw [ownH, hq, hs]
      show og ((b, blk) :: _) b = _
      rw [og_cons, if_pos rfl]
    · have ih := og_ownH_in hR (n := n) (k := k + 1) (base := base) (by omega) (by omega) hq hs
      rw [ownH]
      split
      · next av' p hk' =>
        cases hsk : sel k with
        | false => exact ih
        | true =>
          have hp := (resOk_at (hR k _ hk')).1
          show og (p :: _) b = _
          obtain ⟨p1, p2⟩ := p
          rw [og_cons, if_neg (by simp only at hp hb; omega)]
          exact ih
      · exact ih
theorem og_ownH_out {rs : List Res} {sel : Nat → Bool} : ∀ {n k : Nat} {base : List (Nat × Blk)} {b : Nat}, (∀ q av blk, k ≤ q → q < k + n → sel q = true → rs[q]? ≠ some ⟨av, some (b, blk)⟩) → og (ownH n rs sel k base) b = og base b
  | 0, _, _, _, _ => rfl
  | n + 1, k, base, b, h => by
    have ih := og_ownH_out (n := n) (k := k + 1) (base := base) (b := b) fun q av blk h1 h2 => h q av blk (by omega) (by omega)
    rw [ownH]
    split
    · next av' p hk' =>
      cases hsk : sel k with
      | false => exact ih
      | true =>
        obtain ⟨p1, p2⟩ := p
        show og ((p1, p2) :: _) b = _
        rw [og_cons, if_neg]
        · exact ih
        · rintro rfl
          exact h k av' p2 (Nat.le_refl _) (by omega) hsk hk'
    · exact ih
section
variable {C : Ctx} {N : Fnx} {st : St} {F : Fix} {ρ : Nat → Value} {a : Act} {w : World}
theorem gt_looks {tm : List (Nat × AV)} : ∀ {l : List Nat} {t : Nat}, gt (l.map fun t => (t, gt tm t)) t = if t ∈ l then gt tm t else .any
  | [], t => rfl
  | s :: l, t => by
    rw [List.map_cons, gt_cons, gt_looks]
    by_cases h : s = t
    · subst h; simp
    · rw [if_neg h]
      simp [show ¬ t = s from fun x => h x.symm]
theorem snd_emp (hT : TysOk C.P C.tys) {ops : Array Oper} {o : Oper} {t e : TypeId} {d : TyD} {parts : Array (Nat × Operand)} {s sb : Nat} {z : List Value} (hg : o.guard = none) (ho : o.op = .buildSlice t 0 parts) (hp : parts.toList.isEmpty = true) (ht : tg C.tys t = some ⟨.slice e, s, sb, z⟩) (hd : tg C.tys e = some d) : PureOp C ops st o ⟨.v (.c (.p fun _ v => EmpV v)), none⟩ := by
  have hp : parts = #[] := Array.ext' (by simpa using hp)
  subst hp
  refine pure_run hg (fun ρ => Instr.buildSlice t 0 #[]) (fun ρ => by simp [execOp, ho]) fun F ρ a w _ hs => ?_
  have hbel : Below w.heap.size w (w.alloc (.cells #[] e)) := (Below.refl _ _).alloc (Nat.le_refl _) _
  refine ⟨.slice (some ⟨w.heap.size, 0, none⟩) 0 0, w.alloc (.cells #[] e), ?_, hbel, fun ρ' w'' k1 k2 => ⟨rfl, rfl, w.heap.size, rfl⟩⟩
  unfold Instr.buildSlice
  simp [Sem.run_bind, run_underlying (tyOf_slice (tysOk_get hT ht)), run_sizeOf (tysOk_get hT hd), Instr.fill, newRow]
  have hr : (Array.range 0).map (fun _ => (default : Value)) = #[] := by simp
  rw [hr]
theorem snd_empApp (hT : TysOk C.P C.tys) {ops : Array Oper} {o : Oper} {args : Array Operand} {ts : Array TypeId} {s x : Operand} {t e : TypeId} {sz sb m k : Nat} {z : List Value} {dd : TyD} {β : Type} {mk : β → Nat → Leaf} {Y : Nat → β} (hg : o.guard = none) (ho : o.op = .call ⟨.builtin .append, args, ts⟩) (ha : args.toList = [s, x]) (hts : ts.toList = [t, t])
    (ht : tg C.tys t = some ⟨.slice e, sz, sb, z⟩) (he : tg C.tys e = some dd) (hx : ev st x = .v (.c (.sl k β mk Y m))) (hs0 : ev st s = .v (.c (.p fun _ v => EmpV v)))
    (hb : (Nat.beq k dd.size && Nat.ble 1 dd.size && Nat.ble dd.bytes 256) = true) (hm2 : m ≤ 274877906944) : PureOp C ops st o ⟨.v (.c (.sl k β mk Y m)), none⟩ := by
  simp only [Bool.and_eq_true] at hb
  obtain ⟨⟨b1, b2⟩, b3⟩ := hb
  have hk' := Nat.eq_of_beq_eq_true b1
  have h1d := Nat.le_of_ble_eq_true b2
  have hby := Nat.le_of_ble_eq_true b3
  refine pure_value hg fun F ρ a w _ hs => ?_
  have hr := ev_rob hs hx
  have hr0 := ev_rob hs hs0
  obtain ⟨g0, eg⟩ := (hr0 ρ w (Agr.refl _ _) (Ext.refl _ _)).2.2
  obtain ⟨i, u, zv, i1, i2, i3, i4⟩ := tyOf_spec (tysOk_get hT he)
  have hst := tyOf_slice (tysOk_get hT ht)
  rcases Nat.eq_zero_or_pos m with hm | hm1
  · subst hm
    obtain ⟨ad, cap, e1⟩ := sl_any (fun ρ' w' k1 k2 => (hr ρ' w' k1 k2).2)
    refine ⟨_, _, append_run ho ha hts (by rw [eg, e1]; exact run_append_zero hst i1 (some ⟨g0, 0, none⟩) 0 0 (Nat.le_refl _) ad cap), Below.refl _ _, fun ρ' w'' k1 k2 => ⟨rfl, some ⟨g0, 0, none⟩, 0, rfl, Nat.le_refl _, (fun x => by cases x), ?_⟩⟩
    rintro g off sp q
    cases q
    exact ⟨rfl, fun i j hi => absurd hi (Nat.not_lt_zero _)⟩
  · obtain ⟨g, off, cap, news, e1, e2, e3, e4⟩ := sl_cells (v := a.eval x) (fun ρ' w' k1 k2 => (hr ρ' w' k1 k2).2) hm1 (show 1 ≤ k by omega)
    have his : i.size = k := by rw [hk', i4]
    have hib : i.bytes ≤ 256 := by rw [i4] at hby; exact hby
    have hbb : m * i.bytes ≤ 274877906944 * 256 := Nat.mul_le_mul hm2 hib
    have hcap := grownCap_ge w (0 + m) 0 e
    have hrun := run_append_grow (P := C.P) w t o.type e i zv hst i1 i3 ⟨g0, 0, none⟩ 0 0 [] (by simp) (fun j v hj => by simp at hj) ⟨g, off, none⟩ m cap news (by rw [his]; exact e2) e3 (by omega) (by omega) (growslice_fits (by omega) (by rw [Nat.zero_add]; omega))
    have hbel : Below w.heap.size w (w.drew.alloc (.cells ([].toArray ++ news.toArray ++ Builtin.zeroCells zv.cells (grownCap w (0 + m) 0 e - (0 + m))) e)) := (Below.refl _ _).drew.alloc (Nat.le_refl _) _
    rw [Nat.zero_add] at hrun hbel hcap
    refine ⟨_, _, append_run ho ha hts (by rw [eg, e1]; exact hrun), hbel, fun ρ' w'' k1 k2 => ⟨rfl, some ⟨w.heap.size, 0, none⟩, _, rfl, hcap, (fun x => by cases x), ?_⟩⟩
    rintro g' off' sp q
    cases q
    refine ⟨rfl, fun i' j hi hj => ?_⟩
    have hnm : ¬ Mt F ρ st.own w.heap.size := fun x => by have := hs.mt_lt x; omega
    obtain ⟨v, v1, v2, v3⟩ := e4 i' j hi hj
    have hlt : i' * k + j < news.length := (List.getElem?_eq_some_iff.1 v1).1
    refine ⟨v, ?_, v2, v3 ρ' w'' k1 ((Ext.of_below hbel).trans k2)⟩
    have hsz : w.heap.size < (w.drew.alloc (.cells ([].toArray ++ news.toArray ++ Builtin.zeroCells zv.cells (grownCap w m 0 e - m)) e)).heap.size := by simp
    simp only [World.cell?]
    rw [k2.keep _ hsz hnm, show (w.drew.alloc (.cells ([].toArray ++ news.toArray ++ Builtin.zeroCells zv.cells (grownCap w m 0 e - m)) e)).heap[w.heap.size]? = _ from heap_alloc_new w.drew _]
    simp only [Nat.zero_add]
    rw [← Array.getElem?_toList, Array.toList_append, Array.toList_append, List.nil_append, List.getElem?_append_left hlt]
    exact v1
theorem vcEmp_sound (hT : TysOk C.P C.tys) {ops : List Oper} {o : Oper} {K : Res → Prop} (hg : o.guard = none) (h : vcEmp C ops st o K) : ∃ r, K r ∧ PureOp C ops.toArray st o r := by
  generalize hop : o.op = op at *
  unfold vcEmp at h
  rw [hop] at h
  split at h
  · split at h
    · split at h
      · next ht =>
        split at h
        · next hd =>
          obtain ⟨hb, hk⟩ := guardB_out h
          simp only [Bool.and_eq_true] at hb
          have e0 := Nat.eq_of_beq_eq_true hb.1
          subst e0
          exact ⟨_, hk, snd_emp hT hg hop hb.2 ht hd⟩
        · exact h.elim
      · exact h.elim
    · rw [← hop] at h
      exact vc1_sound hT hg h
  · split at h
    · next ha hts =>
      split at h
      · next hs0 =>
        split at h
        · next hx =>
          split at h
          · next ht =>
            split at h
            · next he =>
              obtain ⟨hb, hk⟩ := guardB_out h
              obtain ⟨rfl, hm, hk⟩ := hk
              simp only [Bool.and_eq_true] at hb
              have e0 := Nat.eq_of_beq_eq_true hb.1.1.1
              subst e0
              exact ⟨_, hk, snd_empApp hT hg hop ha hts ht he hx hs0 (by simp only [Bool.and_eq_true]; exact ⟨⟨hb.1.1.2, hb.1.2⟩, hb.2⟩) hm⟩
            · exact h.elim
          · exact h.elim
        · exact h.elim
      · exact h.elim
    · exact h.elim
  · rw [← hop] at h
    exact vc1_sound hT hg h
theorem vcH1_sound (hT : TysOk C.P C.tys) {ops : List Oper} {o : Oper} {K : Res → Prop} (h : vcH1 C ops st o K) : ∃ r, K r ∧ PureOp C ops.toArray st o r := by
  unfold vcH1 at h
  split at h
  · next hg => exact vcEmp_sound hT hg h
  · next j want hg =>
    split at h
    · next s hs =>
      split at h
      · next t hgt =>
        have hc := h.get
        have hy : ∀ (F : Fix) (ρ : Nat → Value) (a : Act) (w : World), SatE F ρ st a w → yielded ops.toArray a.tmps j = some t := fun F ρ a w hsat => by
          have hty : a.tmps.getD s undef = .bool t := by
            have := (hsat.tm s).now
            rw [hgt] at this
            exact this.2
          unfold yielded
          unfold slotOf at hs
          rw [List.getElem?_toArray, hs]
          have : a.tmps[s]? = some (.bool t) := by
            rcases Nat.lt_or_ge s a.tmps.size with hlt | hge
            · rw [Array.getD_eq_getD_getElem?, Array.getElem?_eq_getElem hlt] at hty
              rw [Array.getElem?_eq_getElem hlt]
              exact congrArg some hty
            · rw [Array.getD_eq_getD_getElem?, Array.getElem?_eq_none hge] at hty
              cases hty
          simp [this]
        by_cases htw : t = want
        · rw [(show (t == want) = true from beq_iff_eq.2 htw)] at hc
          obtain ⟨r, hk, hp⟩ := vc1_sound (ops := ops.toArray) (o := { o with guard := none }) hT rfl hc
          exact ⟨r, hk, fun F ρ a w Q hG hsat => opWp_guard (by simp [Region.wanted, hg, hy F ρ a w hsat, htw]) (hp F ρ a w Q hG hsat)⟩
        · rw [(show (t == want) = false from beq_eq_false_iff_ne.2 htw)] at hc
          refine ⟨_, hc, fun F ρ a w Q hG hsat => ?_⟩
          unfold opWp
          rw [if_neg (by simp [Region.wanted, hg, hy F ρ a w hsat, htw])]
          exact ⟨undef, rfl, Below.refl _ _, fun _ _ _ _ => ⟨[], rfl, trivial⟩⟩
      · next hgt =>
        refine ⟨_, h, fun F ρ a w Q hG hsat => ?_⟩
        have hty : a.tmps.getD s undef = .tuple #[] := by
          obtain ⟨vs, e, hv⟩ := (show (AV.tup []).at ρ w (a.tmps.getD s undef) by rw [← hgt]; exact (hsat.tm s).now)
          cases vs with
          | nil => exact e
          | cons => exact hv.elim
        have hy : yielded ops.toArray a.tmps j = none := by
          unfold yielded
          unfold slotOf at hs
          rw [List.getElem?_toArray, hs]
          cases hq : a.tmps[s]? with
          | none => simp [hq]
          | some u =>
            have : u = .tuple #[] := by
              rw [Array.getD_eq_getD_getElem?, hq] at hty
              exact hty
            simp [hq, this]
        unfold opWp
        rw [if_neg (by simp [Region.wanted, hg, hy])]
        exact ⟨undef, rfl, Below.refl _ _, fun _ _ _ _ => ⟨[], rfl, trivial⟩⟩
      · exact h.elim
    · exact h.elim
theorem vcHead_sound (hT : TysOk C.P C.tys) {ops : List Oper} {ds : List (Option Nat)} {ms : List Nat} {n : Nat} (hlow : ∀ i j, i < n → (ms.getD i 0).testBit j = true → j < i) {K : List Res → Prop} : ∀ {l : List Oper} {i : Nat} {rs : List Res}, i + l.length = n → (∀ j o, l[j]? = some o → ops[i + j]? = some o) → rs.length = i → vcHead C ops ds ms st i l rs K →
    (∀ q, q < i → HeadOk C ops ds ms st rs q) → ∃ rs' : List Res, K rs' ∧ rs'.length = n ∧ ∀ q, q < n → HeadOk C ops ds ms st rs' q
  | [], i, rs, hn, _, hl, h, hok => ⟨rs, h, by simp at hn; omega, fun q hq => hok q (by simp at hn; omega)⟩
  | o :: l, i, rs, hn, hops, hl, h, hok => by
    rw [vcHead] at h
    obtain ⟨hcl, h⟩ := guardB_out h
    obtain ⟨r, hk, hp⟩ := vcH1_sound hT h
    obtain ⟨hres, hk⟩ := guardB_out hk
    have hcong : ∀ q, q ≤ i → ∀ j, (ms.getD q 0).testBit j = true → rs[j]? = (rs ++ [r])[j]? := fun q hq j hj => by
      have := hlow q j (by simp at hn; omega) hj
      rw [List.getElem?_append_left (by omega)]
    refine vcHead_sound hT hlow (by simp at hn ⊢; omega) (fun j o' ho' => by rw [show i + 1 + j = i + (j + 1) by omega]; exact hops (j + 1) o' (by simpa using ho')) (by simp; omega) hk fun q hq => ?_
    by_cases hqi : q = i
    · subst hqi
      refine ⟨o, r, by have := hops 0 o rfl; simpa using this, by rw [List.getElem?_append_right (by omega), hl]; simp, hres, ?_, ?_⟩
      · rw [← stI_congr (hcong q (Nat.le_refl _))]; exact hcl
      · rw [← stI_congr (hcong q (Nat.le_refl _))]; exact hp
    · obtain ⟨o', r', h1, h2, h3, h4, h5⟩ := hok q (by omega)
      refine ⟨o', r', h1, by rw [List.getElem?_append_left (by omega)]; exact h2, h3, ?_, ?_⟩
      · rw [← stI_congr (hcong q (by omega))]; exact h4
      · rw [← stI_congr (hcong q (by omega))]; exact h5
theorem fastOk_at {ops : List Oper} {n : Nat} {ms : List Nat} (h : fastOk ops n ms = true) {i j t : Nat} {o o' : Oper} (hi : i < n) (ho : ops[i]? = some o) (ht : t ∈ looks ops o) (hj : j < n) (ho' : ops[j]? = some o') (hd : o'.dst = some t) : (ms.getD i 0).testBit j = true ∧ j < i := by
  have h1 := List.all_eq_true.1 h i (List.mem_range.2 hi)
  rw [ho] at h1
  have h2 := List.all_eq_true.1 (List.all_eq_true.1 h1 t ht) j (List.mem_range.2 hj)
  rw [ho'] at h2
  simp only [hd] at h2
  rw [nbeq_t rfl, Bool.not_true, Bool.false_or, Bool.and_eq_true] at h2
  exact ⟨h2.1, blt_lt h2.2⟩
theorem ownH_none {rs : List Res} {sel : Nat → Bool} (h : ∀ r ∈ rs, r.own = none) : ∀ {m k : Nat} {base : List (Nat × Blk)}, ownH m rs sel k base = base
  | 0, _, _ => rfl
  | m + 1, k, base => by
    unfold ownH
    split
    · next a p hk =>
      have := h _ (List.mem_of_getElem? hk)
      cases this
    · exact ownH_none h
def preOf : List (Option Nat) → List Res → List (Nat × AV)
  | some d :: ds, r :: rs => (d, r.av) :: preOf ds rs
  | _, _ => []
theorem tmH_full : ∀ {ds : List (Option Nat)} {rs rs0 : List Res} {base : List (Nat × AV)}, dsOk ds = true → ds.length = rs.length → tmH ds (rs0 ++ rs) (fun _ => true) rs0.length base = preOf ds rs ++ base
  | [], [], rs0, base, _, _ => rfl
  | none :: ds, _, _, _, hd, _ => by simp [dsOk] at hd
  | some d :: ds, [], _, _, _, h => by simp at h
  | [], _ :: _, _, _, _, h => by simp at h
  | some d :: ds, r :: rs, rs0, base, hd, hl => by
    rw [dsOk, Bool.and_eq_true] at hd
    have ih := tmH_full (ds := ds) (rs := rs) (rs0 := rs0 ++ [r]) (base := base) hd.2 (by simpa using hl)
    rw [List.append_assoc, List.singleton_append, List.length_append, List.length_singleton] at ih
    rw [tmH, ih]
    unfold pick
    rw [List.getElem?_append_right (Nat.le_refl _), Nat.sub_self]
    rfl
theorem preOf_next : ∀ {ds : List (Option Nat)} {rs : List Res} {d : Nat} {r : Res}, dsOk ds = true → ds[rs.length]? = some (some d) → preOf ds (rs ++ [r]) = preOf ds rs ++ [(d, r.av)]
  | [], rs, _, _, _, h => by simp at h
  | none :: ds, _, _, _, hd, _ => by simp [dsOk] at hd
  | some e :: ds, [], d, r, _, h => by
    simp at h
    subst h
    cases ds with
    | nil => rfl
    | cons x l => cases x <;> rfl
  | some e :: ds, x :: rs, d, r, hd, h => by
    rw [dsOk, Bool.and_eq_true] at hd
    rw [List.cons_append, preOf, preOf, preOf_next hd.2 (by simpa using h), List.cons_append]
theorem dsOk_some : ∀ {ds : List (Option Nat)} {i : Nat}, dsOk ds = true → ds[i]? = some none → False
  | [], _, _, h => by simp at h
  | none :: _, _, hd, _ => by simp [dsOk] at hd
  | some d :: ds, 0, _, h => by simp at h
  | some d :: ds, i + 1, hd, h => by
    rw [dsOk, Bool.and_eq_true] at hd
    exact dsOk_some hd.2 (by simpa using h)
theorem dsOk_inj : ∀ {ds : List (Option Nat)} {i j t : Nat}, dsOk ds = true → ds[i]? = some (some t) → ds[j]? = some (some t) → i = j
  | [], _, _, _, _, h, _ => by simp at h
  | none :: _, _, _, _, hd, _, _ => by simp [dsOk] at hd
  | some d :: ds, 0, 0, _, _, _, _ => rfl
  | some d :: ds, 0, j + 1, t, hd, h, h' => by
    rw [dsOk, Bool.and_eq_true] at hd
    simp at h
    subst h
    have := hd.1
    simp only [Bool.not_eq_true', List.any_eq_false] at this
    have h2 := this (some d) (List.mem_of_getElem? (show ds[j]? = some (some d) by simpa using h'))
    exact absurd (Nat.beq_refl d) h2
  | some d :: ds, i + 1, 0, t, hd, h, h' => (dsOk_inj hd h' h).symm
  | some d :: ds, i + 1, j + 1, t, hd, h, h' => by
    rw [dsOk, Bool.and_eq_true] at hd
    have := dsOk_inj (i := i) (j := j) (t := t) hd.2 (by simpa using h) (by simpa using h')
    rw [this]
structure FastInv (ds : List (Option Nat)) (rs : List Res) (pre : List (Nat × AV)) (st : St) : Prop where
  own : ∀ r ∈ rs, r.own = none
  at_ : ∀ (j d : Nat) (r : Res), ds[j]? = some (some d) → rs[j]? = some r → gt (pre ++ st.tm) d = r.av
  out : ∀ t : Nat, (∀ j : Nat, j < rs.length → ds[j]? ≠ some (some t)) → gt (pre ++ st.tm) t = gt st.tm t
  rev : pre.reverse = preOf ds rs
theorem FastInv.next {ds : List (Option Nat)} {rs : List Res} {pre : List (Nat × AV)} {r : Res} {d : Nat} (h : FastInv ds rs pre st) (hd : dsOk ds = true) (hr : r.own = none) (hi : ds[rs.length]? = some (some d)) : FastInv ds (rs ++ [r]) ((d, r.av) :: pre) st := by
  refine ⟨fun x hx => ?_, fun j e x he hx => ?_, fun t ht => ?_, ?_⟩
  · rcases List.mem_append.1 hx with hx | hx
    · exact h.own x hx
    · rw [List.mem_singleton.1 hx]; exact hr
  · rw [List.cons_append, gt_cons]
    by_cases hj : j = rs.length
    · subst hj
      rw [hi] at he
      cases he
      rw [List.getElem?_append_right (Nat.le_refl _), Nat.sub_self] at hx
      cases hx
      rw [if_pos rfl]
    · have hlt : j < rs.length := by
        have := (List.getElem?_eq_some_iff.1 hx).1
        simp at this
        omega
      rw [List.getElem?_append_left hlt] at hx
      rw [if_neg fun hde => hj (dsOk_inj hd he (by rw [hi, hde]))]
      exact h.at_ j e x he hx
  · rw [List.cons_append, gt_cons, if_neg fun hdt => ht rs.length (by simp) (by rw [hi, hdt])]
    exact h.out t fun j hj => ht j (by simp; omega)
  · rw [List.reverse_cons, h.rev, preOf_next hd hi]
theorem FastInv.stI {ops : List Oper} {ds : List (Option Nat)} {ms : List Nat} {rs : List Res} {pre : List (Nat × AV)} {o : Oper} {n : Nat} (h : FastInv ds rs pre st) (hd : dsOk ds = true) (hdl : ds.length = n) (hdo : ∀ (j : Nat) (d : Nat), ds[j]? = some (some d) → ∃ o, ops[j]? = some o ∧ o.dst = some d) (hf : fastOk ops n ms = true) (hi : rs.length < n) (ho : ops[rs.length]? = some o) :
    Go.VG.stI st ds rs (ms.getD rs.length 0) rs.length ops o = ⟨(looks ops o).map fun t => (t, gt (pre ++ st.tm) t), st.own, st.nx + rs.length⟩ := by
  unfold Go.VG.stI
  rw [ownH_none h.own]
  congr 1
  apply List.map_congr_left
  intro t ht
  congr 1
  by_cases hx : ∃ j : Nat, ds[j]? = some (some t)
  · obtain ⟨j, hj⟩ := hx
    obtain ⟨o', ho', hdt⟩ := hdo j t hj
    have hjn : j < n := by rw [← hdl]; exact (List.getElem?_eq_some_iff.1 hj).1
    obtain ⟨h1, h2⟩ := fastOk_at hf hi ho ht hjn ho' hdt
    have hr := List.getElem?_eq_getElem h2
    rw [gt_tmH_in hd hj, h.at_ j t _ hj hr, Nat.zero_add]
    unfold pick
    rw [hr]
    simp only [h1, cond_true]
  · rw [gt_tmH_out fun j hj => hx ⟨j, hj⟩, h.out t fun j _ hj => hx ⟨j, hj⟩]
theorem vcFast_sound (hT : TysOk C.P C.tys) {ops : List Oper} {ds : List (Option Nat)} {ms : List Nat} {n : Nat} (hd : dsOk ds = true) (hdl : ds.length = n) (hdo : ∀ (j : Nat) (d : Nat), ds[j]? = some (some d) → ∃ o, ops[j]? = some o ∧ o.dst = some d) (hf : fastOk ops n ms = true) (hlow : ∀ i j, i < n → (ms.getD i 0).testBit j = true → j < i) {K : St → Prop} :
    ∀ {l : List Oper} {i : Nat} {rs : List Res} {pre : List (Nat × AV)}, i + l.length = n → (∀ j o, l[j]? = some o → ops[i + j]? = some o) → rs.length = i → vcFast C ops st i l pre K → FastInv ds rs pre st →
    (∀ q, q < i → HeadOk C ops ds ms st rs q) → ∃ rs' : List Res, K (stH st ds rs' (fun _ => true) (st.nx + n)) ∧ rs'.length = n ∧ ∀ q, q < n → HeadOk C ops ds ms st rs' q
  | [], i, rs, pre, hn, _, hl, h, hI, hok => by
    simp at hn
    subst hn
    refine ⟨rs, ?_, hl, hok⟩
    have e : stH st ds rs (fun _ => true) (st.nx + i) = ⟨pre.reverse ++ st.tm, st.own, st.nx + i⟩ := by
      unfold stH
      rw [ownH_none hI.own, hI.rev]
      have := tmH_full (ds := ds) (rs := rs) (rs0 := []) (base := st.tm) hd (by omega)
      rw [List.nil_append, List.length_nil] at this
      rw [this]
    rw [e]
    exact h
  | o :: l, i, rs, pre, hn, hops, hl, h, hI, hok => by
    rw [vcFast] at h
    obtain ⟨hcl, h⟩ := guardB_out h
    obtain ⟨r, hk, hp⟩ := vcH1_sound hT h
    obtain ⟨hres, hk⟩ := guardB_out hk
    subst hl
    have hin : rs.length < n := by simp at hn; omega
    have ho : ops[rs.length]? = some o := by have := hops 0 o rfl; simpa using this
    have hown : r.own = none := by simpa using hres
    rw [← hI.stI hd hdl hdo hf hin ho] at hcl hp
    obtain ⟨od, hod⟩ : ∃ od, ds[rs.length]? = some od := ⟨_, List.getElem?_eq_getElem (by omega)⟩
    have hcong : ∀ q, q ≤ rs.length → ∀ j, (ms.getD q 0).testBit j = true → rs[j]? = (rs ++ [r])[j]? := fun q hq j hj => by
      have := hlow q j (by omega) hj
      rw [List.getElem?_append_left (by omega)]
    cases od with
    | none => exact (dsOk_some hd hod).elim
    | some d =>
      obtain ⟨o2, ho2, hd2⟩ := hdo _ _ hod
      rw [ho] at ho2
      cases ho2
      simp only [hd2, force_eq] at hk
      refine vcFast_sound hT hd hdl hdo hf hlow (by simp at hn ⊢; omega) (fun j o' ho' => by rw [show rs.length + 1 + j = rs.length + (j + 1) by omega]; exact hops (j + 1) o' (by simpa using ho')) (by simp) hk (hI.next hd hown hod) fun q hq => ?_
      by_cases hqi : q = rs.length
      · subst hqi
        refine ⟨o, r, ho, by rw [List.getElem?_append_right (by omega)]; simp, by unfold resOk; rw [hown], ?_, ?_⟩
        · rw [← stI_congr (hcong _ (Nat.le_refl _))]; exact hcl
        · rw [← stI_congr (hcong _ (Nat.le_refl _))]; exact hp
      · obtain ⟨o', r', h1, h2, h3, h4, h5⟩ := hok q (by omega)
        refine ⟨o', r', h1, by rw [List.getElem?_append_left (by omega)]; exact h2, h3, ?_, ?_⟩
        · rw [← stI_congr (hcong q (by omega))]; exact h4
        · rw [← stI_congr (hcong q (by omega))]; exact h5
end
end Go.VG

/- States in letters: regions that draw their order are met. -/
namespace Go.VG
open Go Go.RowKit
section
variable {C : Ctx} {N : Fnx} {st : St} {F : Fix} {ρ : Nat → Value} {a : Act} {w : World}

theorem Made.lift {st st' : St} {r : Res} {v : Value} {w w' : World} (e : EntL st st') (h : Made (F.fo ρ st st') ρ st' r v w w') (hn : ∀ b k, r.own = some (b, k) → og st.own b = none) : Made F ρ st r v w w' := by
  obtain ⟨av, own⟩ := r
  obtain ⟨hb, hm⟩ := h
  refine ⟨hb, ?_⟩
  cases own with
  | none => exact fun ρ' w'' k1 k2 => hm ρ' w'' (fun b hb' => k1 b (e.dom hb')) (k2.mono fun k _ hk => (mt_fo e k).2 hk)
  | some p =>
    obtain ⟨b, k⟩ := p
    obtain ⟨h0, u, h1, h2, h3⟩ := hm
    have hnb := hn b k rfl
    have hA : ∀ {ρ'}, Agr ((b, k) :: st.own) (updρ ρ b u) ρ' → Agr ((b, k) :: st'.own) (updρ ρ b u) ρ' := fun ha c hc => ha c (by
      rcases some_new hc with rfl | ⟨n1, s1⟩
      · rw [og_cons, if_pos rfl]; rfl
      · rw [og_cons, if_neg (fun x => n1 x.symm)]; exact e.dom s1)
    have hM : ∀ {w''}, Ext (Mt F (updρ ρ b u) ((b, k) :: st.own)) w' w'' → Ext (Mt (F.fo ρ st st') (updρ ρ b u) ((b, k) :: st'.own)) w' w'' := fun hx => hx.mono fun i _ hi => by
      rcases hi with ho | ⟨c, c1, c2⟩
      · exact .inl (.inl ho)
      · rcases some_new c1 with rfl | ⟨n1, s1⟩
        · exact .inr ⟨c, by rw [og_cons, if_pos rfl]; rfl, c2⟩
        · rw [updρ_ne _ _ n1] at c2
          cases hc : og st'.own c with
          | none => exact .inl (.inr ⟨c, s1, hc, c2⟩)
          | some kc => exact .inr ⟨c, by rw [og_cons, if_neg (fun x => n1 x.symm), hc]; rfl, by rw [updρ_ne _ _ n1]; exact c2⟩
    exact ⟨hnb, u, h1, fun ρ' w'' k1 k2 => h2 ρ' w'' (hA k1) (hM k2), h3.mono (fun _ _ => rfl) fun l x hr ρ' w'' k1 k2 => hr ρ' w'' (hA k1) (hM k2)⟩
def selA (listed : Array Bool) (j : Nat) : Bool := listed.getD j false
theorem wpOp_of {P : Program} {l : List Oper} {Q : Exit → Act → World → Prop} {i : Nat} {o : Oper} {K : Act → World → Prop} (ho : l[i]? = some o) (h : opWp P l.toArray Q o K a w) : wpOp P l.toArray Q i K a w := by
  unfold wpOp
  rw [List.getElem?_toArray, ho]
  exact h
theorem sel_set {listed : Array Bool} {i j : Nat} (hi : i < listed.size) : selA (listed.setIfInBounds i true) j = if j = i then true else selA listed j := by
  unfold selA
  by_cases h : j = i
  · subst h
    rw [if_pos rfl]
    unfold Array.getD
    simp [hi]
  · rw [if_neg h, getD_set_other h]
theorem draw_mask0 {ops : List Oper} {ms : List Nat} {n : Nat} (hM : masksOk ops n ms = true) {listed : Array Bool} {i : Nat} (hi : i < n) (hinv : HeadInv .any ops.toArray n listed) (hd : ∀ o', ops[i]? = some o' → ∀ k ∈ dep1 o', listed.getD k false = true) :
    ∀ j, (ms.getD i 0).testBit j = true → listed.getD j false = true := by
  have hmask : ∀ (q : Nat), q < n → (∀ o', ops[q]? = some o' → ∀ k ∈ dep1 o', listed.getD k false = true) → ∀ j, (ms.getD q 0).testBit j = true → listed.getD j false = true := by
    intro q
    induction q using Nat.strongRecOn with
    | _ q ih =>
      intro hq hdone j hj
      obtain ⟨oq, hoq, hlow, hdep, hbits⟩ := masksOk_at hM hq
      obtain ⟨k, hk, hkj⟩ := hbits j hj
      have hdk := hdone oq hoq k hk
      rcases hkj with rfl | hkj
      · exact hdk
      · have hkq := hdep k hk
        refine ih k hkq (by omega) (fun o' ho' k' hk' => ?_) j hkj
        unfold dep1 at hk'
        rw [List.mem_map] at hk'
        obtain ⟨e, he, rfl⟩ := hk'
        rw [List.mem_filter] at he
        exact hinv.closed k o' (by simpa using ho') hdk e (by simpa using he.1) he.2
  exact hmask i hi hd
theorem draw_mask {ops : List Oper} {ms : List Nat} {n : Nat} (hM : masksOk ops n ms = true) {listed : Array Bool} {i : Nat} (hi : i < n) (hr : i ∈ Region.ready .any ops.toArray listed) (hinv : HeadInv .any ops.toArray n listed) :
    ∀ j, (ms.getD i 0).testBit j = true → listed.getD j false = true := by
  obtain ⟨hi1, hi2, hi3⟩ := ready_mem hr
  exact draw_mask0 hM hi hinv fun o' ho' k hk => by
    unfold dep1 at hk
    rw [List.mem_map] at hk
    obtain ⟨e, he, rfl⟩ := hk
    rw [List.mem_filter] at he
    exact hi3 o' (by simpa using ho') e (by simpa using he.1) he.2
theorem draw_maskL {ops : List Oper} {ms : List Nat} {n : Nat} (hM : masksOk ops n ms = true) {listed : Array Bool} {i : Nat} (hi : i < n) (hl : listed.getD i false = true) (hinv : HeadInv .any ops.toArray n listed) :
    ∀ j, (ms.getD i 0).testBit j = true → listed.getD j false = true :=
  draw_mask0 hM hi hinv fun o' ho' k hk => by
    unfold dep1 at hk
    rw [List.mem_map] at hk
    obtain ⟨e, he, rfl⟩ := hk
    rw [List.mem_filter] at he
    exact hinv.closed i o' (by simpa using ho') hl e (by simpa using he.1) he.2
theorem draw_ent {ops : List Oper} {ds : List (Option Nat)} {rs : List Res} {nx m i : Nat} {o : Oper} {sel : Nat → Bool} (_hdl : rs.length = ds.length) (hdsk : dsOk ds = true) (hR : ∀ q r, rs[q]? = some r → resOk st q r = true) (hmi : ∀ j, m.testBit j = true → sel j = true) (h4 : closedB (stI st ds rs m i ops o) = true) :
    EntL (stH st ds rs sel nx) (stI st ds rs m i ops o) := by
  refine ⟨fun t => ?_, fun b k hk => ?_, h4⟩
  · show AvLe (gt (tmH ds rs sel 0 st.tm) t) (gt ((looks ops o).map fun t => (t, gt (tmH ds rs (fun j => m.testBit j) 0 st.tm) t)) t)
    rw [gt_looks]
    split
    · by_cases hin : ∃ j : Nat, ds[j]? = some (some t)
      · obtain ⟨j, hj⟩ := hin
        rw [gt_tmH_in hdsk hj, gt_tmH_in hdsk hj, Nat.zero_add]
        cases hb : m.testBit j with
        | false =>
          have : pick rs (fun j => m.testBit j) j = .any := by
            unfold pick
            simp only [hb]
            cases rs[j]? <;> rfl
          rw [this]
          exact .any _
        | true =>
          have e : pick rs (fun j => m.testBit j) j = pick rs sel j := by
            unfold pick
            simp only [hb, show sel j = true from hmi j hb]
          rw [e]
          exact .refl _
      · have hin' : ∀ j : Nat, ds[j]? ≠ some (some t) := fun j hj => hin ⟨j, hj⟩
        rw [gt_tmH_out hin', gt_tmH_out hin']
        exact .refl _
    · exact .any _
  · refine ⟨k, ?_, .refl _⟩
    show og (ownH ds.length rs sel 0 st.own) b = some k
    have hk' : og (ownH ds.length rs (fun j => m.testBit j) 0 st.own) b = some k := hk
    by_cases hex : ∃ (q : Nat) (av : AV) (blk : Blk), q < ds.length ∧ m.testBit q = true ∧ rs[q]? = some ⟨av, some (b, blk)⟩
    · obtain ⟨q, av, blk, q1, q2, q3⟩ := hex
      rw [og_ownH_in hR (Nat.zero_le _) (by omega) q3 q2] at hk'
      rw [og_ownH_in hR (Nat.zero_le _) (by omega) q3 (hmi q q2)]
      exact hk'
    · rw [og_ownH_out (fun q av blk _ q1 q2 q3 => hex ⟨q, av, blk, by omega, q2, q3⟩)] at hk'
      rw [og_ownH_out (fun q av blk _ q1 q2 q3 => ?_)]
      · exact hk'
      · have := (resOk_at (hR q _ q3)).2
        rw [this] at hk'
        cases hk'
theorem draw_core {ops : List Oper} {ds : List (Option Nat)} {rs : List Res} {n nx : Nat} (hds : ds = (ops.take n).map (·.dst)) (hn : n ≤ ops.length) (hR : ∀ q r, rs[q]? = some r → resOk st q r = true) (hdsk : dsOk ds = true) (hdst : ((ops.take n).all fun o => dstOk N.nt o.dst) = true)
    (hG : F.G = C.G) (hN : F.nt = N.nt) {Q : Exit → Act → World → Prop} {listed : Array Bool} {i : Nat} {o : Oper} {r : Res} {stq : St} (hi : i < n) (h1 : ops[i]? = some o) (h2 : rs[i]? = some r) (hr : i ∈ Region.ready .any ops.toArray listed) (hinv : HeadInv .any ops.toArray n listed)
    (hent : EntL (stH st ds rs (selA listed) nx) stq) (h5 : PureOp C ops.toArray stq o r) (hs : Sat F (stH st ds rs (selA listed) nx) a w) : wpOp C.P ops.toArray Q i (fun a' w' => Sat F (stH st ds rs (selA (listed.setIfInBounds i true)) nx) a' w') a w := by
  obtain ⟨ρ, hs⟩ := hs
  obtain ⟨hi1, hi2, hi3⟩ := ready_mem hr
  have hisz : i < listed.size := by rw [hinv.size]; simpa using hi1
  have hdl : ds.length = n := by rw [hds]; simp; omega
  have hdsq : ∀ q, q < n → ∀ o', ops[q]? = some o' → ds[q]? = some o'.dst := fun q hq o' ho' => by
    rw [hds, List.getElem?_map, List.getElem?_take, if_pos hq, ho']
    rfl
  -- the operation is met
  have hp := h5 (F.fo ρ (stH st ds rs (selA listed) nx) stq) ρ a w Q hG (hs.entO hent)
  refine wpOp_of h1 (opWp_mono ?_ hp)
  rintro a' w' ⟨v, rfl, hm⟩
  have hdi := hdsq i hi o h1
  cases hdst' : o.dst with
  | none =>
    exfalso
    rw [hdst'] at hdi
    exact dsOk_some hdsk hdi
  | some d =>
    rw [hdst'] at hdi
    have hnew : ∀ b k, r.own = some (b, k) → og (stH st ds rs (selA listed) nx).own b = none := fun b k hb => by
      obtain ⟨av, own⟩ := r
      simp only at hb
      subst hb
      have h0 := resOk_at (hR i _ h2)
      show og (ownH ds.length rs (selA listed) 0 st.own) b = none
      rw [og_ownH_out (fun q av' blk _ q1 q2 q3 => ?_)]
      · exact h0.2
      · have h0' := (resOk_at (hR q _ q3)).1
        have hqi : q = i := by have := h0.1; simp only at this h0'; omega
        subst hqi
        have : listed.getD q false = true := q2
        unfold Array.getD at this hi2
        rw [dif_pos hisz] at this hi2
        rw [hi2] at this
        cases this
    have hd : dstOk F.nt (some d) = true := by
      rw [hN, ← hdst']
      exact List.all_eq_true.1 hdst o (List.mem_of_getElem? (show (ops.take n)[i]? = some o by rw [List.getElem?_take, if_pos hi]; exact h1))
    obtain ⟨ρ', hs'⟩ := hs.add (hm.lift hent hnew) hd
    refine ⟨ρ', hs'.congr (fun t => ?_) fun b => ?_⟩
    · show gt (tmH ds rs (selA (listed.setIfInBounds i true)) 0 st.tm) t = gt ((d, r.av) :: tmH ds rs (selA listed) 0 st.tm) t
      rw [gt_cons]
      by_cases hin : ∃ j : Nat, ds[j]? = some (some t)
      · obtain ⟨j, hj⟩ := hin
        rw [gt_tmH_in hdsk hj, gt_tmH_in hdsk hj, Nat.zero_add]
        by_cases hji : j = i
        · subst hji
          rw [hdi] at hj
          cases hj
          rw [if_pos rfl]
          unfold pick
          simp only [h2, sel_set hisz, if_pos]
          rfl
        · have hdt : d ≠ t := by
            rintro rfl
            exact hji (dsOk_inj hdsk hj hdi)
          rw [if_neg hdt]
          unfold pick
          simp only [sel_set hisz, if_neg hji]
      · have hin' : ∀ j : Nat, ds[j]? ≠ some (some t) := fun j hj => hin ⟨j, hj⟩
        have hdt : d ≠ t := by rintro rfl; exact hin' i hdi
        rw [gt_tmH_out hin', gt_tmH_out hin', if_neg hdt]
    · show og (ownH ds.length rs (selA (listed.setIfInBounds i true)) 0 st.own) b = og ((stH st ds rs (selA listed) nx).add (some d) r).own b
      have hold : ∀ q, q < ds.length → q ≠ i → selA (listed.setIfInBounds i true) q = selA listed q := fun q _ hq => by rw [sel_set hisz, if_neg hq]
      by_cases hex : ∃ (q : Nat) (av : AV) (blk : Blk), q < ds.length ∧ selA (listed.setIfInBounds i true) q = true ∧ rs[q]? = some ⟨av, some (b, blk)⟩
      · obtain ⟨q, av, blk, q1, q2, q3⟩ := hex
        rw [og_ownH_in hR (Nat.zero_le _) (by omega) q3 q2]
        by_cases hqi : q = i
        · subst hqi
          rw [h2] at q3
          cases q3
          show _ = og ((b, blk) :: _) b
          rw [og_cons, if_pos rfl]
        · have hne : ∀ b' k', r.own = some (b', k') → b' ≠ b := fun b' k' hb' x => by
            obtain ⟨av', own'⟩ := r
            simp only at hb'
            subst hb'
            have e1 := (resOk_at (hR i _ h2)).1
            have e2 := (resOk_at (hR q _ q3)).1
            simp only at e1 e2
            omega
          have e : og ((stH st ds rs (selA listed) nx).add (some d) r).own b = og (ownH ds.length rs (selA listed) 0 st.own) b := by
            obtain ⟨av', own'⟩ := r
            cases own' with
            | none => rfl
            | some p =>
              obtain ⟨b', k'⟩ := p
              show og ((b', k') :: _) b = _
              rw [og_cons, if_neg (hne b' k' rfl)]
              rfl
          rw [e, og_ownH_in hR (Nat.zero_le _) (by omega) q3 (by rw [← hold q q1 hqi]; exact q2)]
      · rw [og_ownH_out (fun q av blk _ q1 q2 q3 => hex ⟨q, av, blk, by omega, q2, q3⟩)]
        have hne : ∀ b' k', r.own = some (b', k') → b' ≠ b := fun b' k' hb' x => by
          subst x
          obtain ⟨av', own'⟩ := r
          simp only at hb'
          subst hb'
          exact hex ⟨i, av', k', by omega, by rw [sel_set hisz, if_pos rfl], h2⟩
        have e : og ((stH st ds rs (selA listed) nx).add (some d) r).own b = og (ownH ds.length rs (selA listed) 0 st.own) b := by
          obtain ⟨av', own'⟩ := r
          cases own' with
          | none => rfl
          | some p =>
            obtain ⟨b', k'⟩ := p
            show og ((b', k') :: _) b = _
            rw [og_cons, if_neg (hne b' k' rfl)]
            rfl
        rw [e, og_ownH_out (fun q av blk _ q1 q2 q3 => ?_)]
        by_cases hqi : q = i
        · subst hqi
          exact hex ⟨q, av, blk, by omega, by rw [sel_set hisz, if_pos rfl], q3⟩
        · exact hex ⟨q, av, blk, by omega, by rw [hold q (by omega) hqi]; exact q2, q3⟩
theorem draw_step {ops : List Oper} {ds : List (Option Nat)} {ms : List Nat} {rs : List Res} {n nx : Nat} (hds : ds = (ops.take n).map (·.dst)) (hn : n ≤ ops.length) (hok : ∀ q, q < n → HeadOk C ops ds ms st rs q) (hrl : rs.length = n) (hM : masksOk ops n ms = true) (hdsk : dsOk ds = true) (hdst : ((ops.take n).all fun o => dstOk N.nt o.dst) = true)
    (hG : F.G = C.G) (hN : F.nt = N.nt) {Q : Exit → Act → World → Prop} {listed : Array Bool} {i : Nat} (hi : i < n) (hr : i ∈ Region.ready .any ops.toArray listed) (hinv : HeadInv .any ops.toArray n listed)
    (hs : Sat F (stH st ds rs (selA listed) nx) a w) : wpOp C.P ops.toArray Q i (fun a' w' => Sat F (stH st ds rs (selA (listed.setIfInBounds i true)) nx) a' w') a w := by
  obtain ⟨o, r, h1, h2, h3, h4, h5⟩ := hok i hi
  have hR : ∀ q r, rs[q]? = some r → resOk st q r = true := fun q r' hq => by
    have hlt : q < n := by
      rcases Nat.lt_or_ge q n with h | h
      · exact h
      · rw [List.getElem?_eq_none (by omega)] at hq; cases hq
    obtain ⟨_, r'', _, g2, g3, _⟩ := hok q hlt
    rw [hq] at g2
    cases g2
    exact g3
  have hdl : rs.length = ds.length := by rw [hds, hrl]; simp; omega
  exact draw_core hds hn hR hdsk hdst hG hN hi h1 h2 hr hinv (draw_ent hdl hdsk hR (draw_mask hM hi hr hinv) h4) h5 hs
theorem SatE.sub (h : SatE F ρ st a w) {st' : St} (ht : ∀ t, gt st'.tm t = gt st.tm t ∨ gt st'.tm t = .any) (ho : ∀ b, og st'.own b = og st.own b) : SatE F ρ st' a w := by
  have h1 : SatE F ρ ⟨st'.tm, st.own, st'.nx⟩ a w := ⟨h.dfr, h.nt, fun t ρ' w' k1 k2 => by
    show (gt st'.tm t).at ρ' w' _
    rcases ht t with e | e <;> rw [e]
    · exact h.tm t ρ' w' k1 k2
    · exact trivial, h.own, h.inj, h.base, h.dis, h.below, h.gl, h.oo⟩
  exact h1.congr (fun _ => rfl) ho
theorem pick_len {rs : List Res} {sel sel' : Nat → Bool} (h : ∀ k, k < rs.length → sel k = sel' k) (k : Nat) : pick rs sel k = pick rs sel' k := by
  unfold pick
  cases hk : rs[k]? with
  | none => rfl
  | some r => simp only []; rw [h k (List.getElem?_eq_some_iff.1 hk).1]
theorem tmH_sel {rs : List Res} {sel sel' : Nat → Bool} (h : ∀ k, k < rs.length → sel k = sel' k) : ∀ {ds : List (Option Nat)} {k : Nat} {base : List (Nat × AV)}, tmH ds rs sel k base = tmH ds rs sel' k base
  | [], _, _ => rfl
  | some d :: ds, k, base => by rw [tmH, tmH, pick_len h k, tmH_sel h]
  | none :: ds, k, base => by rw [tmH, tmH, tmH_sel h]
theorem ownH_sel {rs : List Res} {sel sel' : Nat → Bool} (h : ∀ k, k < rs.length → sel k = sel' k) : ∀ {n k : Nat} {base : List (Nat × Blk)}, ownH n rs sel k base = ownH n rs sel' k base
  | 0, _, _ => rfl
  | n + 1, k, base => by
    rw [ownH, ownH, ownH_sel h]
    split
    · next hk => rw [h k (List.getElem?_eq_some_iff.1 hk).1]
    · rfl
theorem stH_sel {rs : List Res} {sel sel' : Nat → Bool} (h : ∀ k, k < rs.length → sel k = sel' k) (st : St) (ds : List (Option Nat)) (nx : Nat) : stH st ds rs sel nx = stH st ds rs sel' nx := by
  unfold stH
  rw [tmH_sel h, ownH_sel h]
theorem stH_none (st : St) {ds : List (Option Nat)} (hd : dsOk ds = true) (rs : List Res) {sel : Nat → Bool} (hsel : ∀ j, sel j = false) (nx : Nat) (h : SatE F ρ st a w) : SatE F ρ (stH st ds rs sel nx) a w := by
  refine h.sub (fun t => ?_) fun b => ?_
  · show gt (tmH ds rs sel 0 st.tm) t = _ ∨ gt (tmH ds rs sel 0 st.tm) t = _
    by_cases hin : ∃ j : Nat, ds[j]? = some (some t)
    · obtain ⟨j, hj⟩ := hin
      right
      rw [gt_tmH_in hd hj]
      unfold pick
      simp only [hsel]
      cases rs[0 + j]? <;> rfl
    · left
      exact gt_tmH_out fun j hj => hin ⟨j, hj⟩
  · show og (ownH ds.length rs sel 0 st.own) b = _
    exact og_ownH_out fun q av blk _ _ h1 _ => by rw [hsel] at h1; cases h1
def pickB (st0 : List (Nat × AV)) (t : Nat) (rs : List Res) (sel : Nat → Bool) (k : Nat) : AV := match rs[k]? with
  | some r => bif sel k then r.av else gt st0 t
  | none => .any
def tmB (st0 : List (Nat × AV)) : List (Option Nat) → List Res → (Nat → Bool) → Nat → List (Nat × AV)
  | [], _, _, _ => st0
  | some d :: ds, rs, sel, k => (d, pickB st0 d rs sel k) :: tmB st0 ds rs sel (k + 1)
  | none :: ds, rs, sel, k => tmB st0 ds rs sel (k + 1)
theorem gt_tmB_in {st0 : List (Nat × AV)} {rs : List Res} {sel : Nat → Bool} : ∀ {ds : List (Option Nat)} {k j t : Nat}, dsOk2 ds = true → ds[j]? = some (some t) → gt (tmB st0 ds rs sel k) t = pickB st0 t rs sel (k + j)
  | [], _, _, _, _, h => by simp at h
  | none :: ds, k, 0, t, _, h => by simp at h
  | none :: ds, k, j + 1, t, hd, h => by
    rw [tmB, gt_tmB_in (ds := ds) hd (by simpa using h), show k + 1 + j = k + (j + 1) by omega]
  | some d :: ds, k, 0, t, hd, h => by
    simp at h
    subst h
    rw [tmB, gt_cons, if_pos rfl]
    rfl
  | some d :: ds, k, j + 1, t, hd, h => by
    have h' : ds[j]? = some (some t) := by simpa using h
    rw [dsOk2, Bool.and_eq_true] at hd
    have hne : d ≠ t := by
      rintro rfl
      have := hd.1
      simp only [Bool.not_eq_true', List.any_eq_false] at this
      have := this _ (List.mem_of_getElem? h')
      simp only at this
      exact this (Nat.beq_refl d)
    rw [tmB, gt_cons, if_neg hne, gt_tmB_in hd.2 h', show k + 1 + j = k + (j + 1) by omega]
theorem gt_tmB_out {st0 : List (Nat × AV)} {rs : List Res} {sel : Nat → Bool} : ∀ {ds : List (Option Nat)} {k t : Nat}, (∀ j : Nat, ds[j]? ≠ some (some t)) → gt (tmB st0 ds rs sel k) t = gt st0 t
  | [], _, _, _ => rfl
  | none :: ds, k, t, h => by rw [tmB]; exact gt_tmB_out fun j => by simpa using h (j + 1)
  | some d :: ds, k, t, h => by
    have hne : d ≠ t := fun x => h 0 (by rw [x]; rfl)
    rw [tmB, gt_cons, if_neg hne]
    exact gt_tmB_out fun j => by simpa using h (j + 1)
theorem tmB_sel {st0 : List (Nat × AV)} {rs : List Res} {sel sel' : Nat → Bool} (h : ∀ k, k < rs.length → sel k = sel' k) : ∀ {ds : List (Option Nat)} {k : Nat}, tmB st0 ds rs sel k = tmB st0 ds rs sel' k
  | [], _ => rfl
  | none :: ds, k => by rw [tmB, tmB, tmB_sel h]
  | some d :: ds, k => by
    rw [tmB, tmB, tmB_sel h]
    have : pickB st0 d rs sel k = pickB st0 d rs sel' k := by
      unfold pickB
      cases hk : rs[k]? with
      | none => rfl
      | some r => simp only []; rw [h k (List.getElem?_eq_some_iff.1 hk).1]
    rw [this]
theorem dsOk2_inj : ∀ {ds : List (Option Nat)} {i j t : Nat}, dsOk2 ds = true → ds[i]? = some (some t) → ds[j]? = some (some t) → i = j
  | [], _, _, _, _, h, _ => by simp at h
  | none :: ds, 0, _, _, _, h, _ => by simp at h
  | none :: ds, _ + 1, 0, _, _, _, h => by simp at h
  | none :: ds, i + 1, j + 1, t, hd, h, h' => by rw [dsOk2_inj (ds := ds) (i := i) (j := j) (t := t) hd (by simpa using h) (by simpa using h')]
  | some d :: ds, 0, 0, _, _, _, _ => rfl
  | some d :: ds, 0, j + 1, t, hd, h, h' => by
    rw [dsOk2, Bool.and_eq_true] at hd
    simp at h
    subst h
    have := hd.1
    simp only [Bool.not_eq_true', List.any_eq_false] at this
    have h2 := this (some d) (List.mem_of_getElem? (show ds[j]? = some (some d) by simpa using h'))
    exact absurd (Nat.beq_refl d) h2
  | some d :: ds, i + 1, 0, t, hd, h, h' => (dsOk2_inj hd h' h).symm
  | some d :: ds, i + 1, j + 1, t, hd, h, h' => by
    rw [dsOk2, Bool.and_eq_true] at hd
    have := dsOk2_inj (i := i) (j := j) (t := t) hd.2 (by simpa using h) (by simpa using h')
    rw [this]
theorem ownH_mono {rs : List Res} {sel sel' : Nat → Bool} (hR : ∀ q r, rs[q]? = some r → resOk st q r = true) (h : ∀ j, sel j = true → sel' j = true) {n b : Nat} {k : Blk} (hk : og (ownH n rs sel 0 st.own) b = some k) : og (ownH n rs sel' 0 st.own) b = some k := by
  by_cases hex : ∃ (q : Nat) (av : AV) (blk : Blk), q < n ∧ sel q = true ∧ rs[q]? = some ⟨av, some (b, blk)⟩
  · obtain ⟨q, av, blk, q1, q2, q3⟩ := hex
    rw [og_ownH_in hR (Nat.zero_le _) (by omega) q3 q2] at hk
    rw [og_ownH_in hR (Nat.zero_le _) (by omega) q3 (h q q2)]
    exact hk
  · rw [og_ownH_out (fun q av blk _ q1 q2 q3 => hex ⟨q, av, blk, by omega, q2, q3⟩)] at hk
    rw [og_ownH_out (fun q av blk _ q1 q2 q3 => ?_)]
    · exact hk
    · have := (resOk_at (hR q _ q3)).2
      rw [this] at hk
      cases hk
theorem ownH_step {rs : List Res} {sel sel' : Nat → Bool} {n i : Nat} {r : Res} (hR : ∀ q r, rs[q]? = some r → resOk st q r = true) (hi : i < n) (hr : rs[i]? = some r) (h1 : sel' i = true) (h0 : sel i = false) (hs : ∀ q, q ≠ i → sel' q = sel q) (b : Nat) :
    og (ownH n rs sel' 0 st.own) b = og (match r.own with | some p => p :: ownH n rs sel 0 st.own | none => ownH n rs sel 0 st.own) b := by
  by_cases hex : ∃ (q : Nat) (av : AV) (blk : Blk), q < n ∧ sel' q = true ∧ rs[q]? = some ⟨av, some (b, blk)⟩
  · obtain ⟨q, av, blk, q1, q2, q3⟩ := hex
    rw [og_ownH_in hR (Nat.zero_le _) (by omega) q3 q2]
    by_cases hqi : q = i
    · subst hqi
      rw [hr] at q3
      cases q3
      show _ = og ((b, blk) :: _) b
      rw [og_cons, if_pos rfl]
    · obtain ⟨av', own'⟩ := r
      cases own' with
      | none =>
        show _ = og (ownH n rs sel 0 st.own) b
        rw [og_ownH_in hR (Nat.zero_le _) (by omega) q3 (by rw [← hs q hqi]; exact q2)]
      | some p =>
        obtain ⟨b', k'⟩ := p
        show _ = og ((b', k') :: ownH n rs sel 0 st.own) b
        have e1 := (resOk_at (hR i _ hr)).1
        have e2 := (resOk_at (hR q _ q3)).1
        simp only at e1 e2
        rw [og_cons, if_neg (by omega), og_ownH_in hR (Nat.zero_le _) (by omega) q3 (by rw [← hs q hqi]; exact q2)]
  · rw [og_ownH_out (fun q av blk _ q1 q2 q3 => hex ⟨q, av, blk, by omega, q2, q3⟩)]
    have e : og (ownH n rs sel 0 st.own) b = og st.own b := og_ownH_out fun q av blk _ q1 q2 q3 => by
      by_cases hqi : q = i
      · subst hqi; rw [h0] at q2; cases q2
      · exact hex ⟨q, av, blk, by omega, by rw [hs q hqi]; exact q2, q3⟩
    obtain ⟨av', own'⟩ := r
    cases own' with
    | none => exact e.symm
    | some p =>
      obtain ⟨b', k'⟩ := p
      show _ = og ((b', k') :: ownH n rs sel 0 st.own) b
      rw [og_cons, if_neg (fun x => hex ⟨i, av', k', hi, h1, by rw [← x]; exact hr⟩), e]
theorem lsLe_any : ∀ ls : List Leaf, LsLe ls (List.replicate ls.length .any)
  | [] => .nil
  | l :: ls => .cons (.any l) (lsLe_any ls)
def stS (st : St) (ds : List (Option Nat)) (rs : List Res) (sel : Nat → Bool) (q b : Nat) (l : List Leaf) (nx : Nat) : St :=
  { tm := tmB st.tm ds rs sel 0, own := bif sel q then oset (ownH ds.length rs sel 0 st.own) b (.st l) else ownH ds.length rs sel 0 st.own, nx := nx }
theorem lookB_at {ops : List Oper} {ms : List Nat} {q x j : Nat} (h : lookB ops ms q x = true) (hj : (ops.map (·.dst))[j]? = some (some x)) : (ms.getD q 0).testBit j = true := by
  rw [List.getElem?_map] at hj
  cases ho : ops[j]? with
  | none => rw [ho] at hj; cases hj
  | some o =>
    rw [ho] at hj
    have hd : o.dst = some x := by simpa using hj
    have := List.all_eq_true.1 h j (List.mem_range.2 (List.getElem?_eq_some_iff.1 ho).1)
    simp only [ho, hd, Nat.beq_refl, Bool.not_true, Bool.false_or] at this
    exact this
structure SeeOk (st stq : St) (ds : List (Option Nat)) (ms : List Nat) (i : Nat) (rs : List Res) (t : Nat) : Prop where
  w : gt stq.tm t = .any ∨ (∃ (j : Nat) (r : Res), (ms.getD i 0).testBit j = true ∧ ds[j]? = some (some t) ∧ rs[j]? = some r ∧ gt stq.tm t = r.av) ∨ ((∀ j : Nat, ds[j]? = some (some t) → (ms.getD j 0).testBit i = true ∨ j = i) ∧ gt stq.tm t = gt st.tm t)
def HeadOkS (C : Ctx) (ops : List Oper) (ds : List (Option Nat)) (ms : List Nat) (st : St) (q0 b k : Nat) (rs : List Res) (q : Nat) : Prop :=
  if q = q0 then rs[q]? = some ⟨.any, none⟩ else ∃ o r stq, ops[q]? = some o ∧ o.dst.isSome = true ∧ rs[q]? = some r ∧ resOk st q r = true ∧ closedB stq = true ∧ stq.own = oset st.own b (.st (List.replicate k .any)) ∧ (∀ t, SeeOk st stq ds ms q rs t) ∧ PureOp C ops.toArray stq o r
structure FastS (st : St) (ds : List (Option Nat)) (rs : List Res) (pre : List (Nat × AV)) (own : List (Nat × Blk)) : Prop where
  p1 : ∀ (j d : Nat) (r : Res), ds[j]? = some (some d) → rs[j]? = some r → gt (pre ++ st.tm) d = r.av
  p2 : ∀ t : Nat, (∀ j : Nat, j < rs.length → ds[j]? ≠ some (some t)) → gt (pre ++ st.tm) t = gt st.tm t
  p3 : ∀ (b : Nat) (k : Blk), og own b = some k ↔ ∃ (q : Nat) (av : AV), rs[q]? = some ⟨av, some (b, k)⟩
theorem vcFastS_sound (hT : TysOk C.P C.tys) {ops : List Oper} {ds : List (Option Nat)} {ms : List Nat} {n q0 b k : Nat} (hnl : ops.length = n) (hds : dsOk2 ds = true) (hdse : ds = ops.map (·.dst)) (hq0 : ∀ o, ops[q0]? = some o → o.dst = none) (hlow : ∀ i j, i < n → (ms.getD i 0).testBit j = true → j < i)
    (hsee : ∀ i o t, i < n → i ≠ q0 → ops[i]? = some o → t ∈ looks ops o → ∀ j : Nat, ds[j]? = some (some t) → (ms.getD i 0).testBit j = true ∨ (ms.getD j 0).testBit i = true ∨ j = i) {K : List (Nat × AV) → List (Nat × Blk) → Prop} :
    ∀ {l : List Oper} {i : Nat} {rs : List Res} {pre : List (Nat × AV)} {own : List (Nat × Blk)}, i + l.length = n → (∀ j o, l[j]? = some o → ops[i + j]? = some o) → rs.length = i → vcFastS C ops st q0 b k i l pre own K → FastS st ds rs pre own → (∀ q r, rs[q]? = some r → resOk st q r = true) →
    (∀ q, q < i → HeadOkS C ops ds ms st q0 b k rs q) → ∃ (rs' : List Res) (pre' : List (Nat × AV)) (own' : List (Nat × Blk)), K pre' own' ∧ rs'.length = n ∧ FastS st ds rs' pre' own' ∧ (∀ q, q < n → HeadOkS C ops ds ms st q0 b k rs' q)
  | [], i, rs, pre, own, hn, _, hl, h, hf, _, hok => ⟨rs, pre, own, h, by simp at hn; omega, hf, fun q hq => hok q (by simp at hn; omega)⟩
  | o :: l, i, rs, pre, own, hn, hops, hl, h, hf, hRr, hok => by
    have hoi : ops[i]? = some o := by have := hops 0 o rfl; simpa using this
    have hdi : ds[i]? = some o.dst := by rw [hdse, List.getElem?_map, hoi]; rfl
    have hold : ∀ (r : Res) q, q < i → HeadOkS C ops ds ms st q0 b k (rs ++ [r]) q := fun r q hq => by
      have := hok q hq
      unfold HeadOkS at this ⊢
      split at this
      · next e => rw [if_pos e, List.getElem?_append_left (by omega)]; exact this
      · next e =>
        rw [if_neg e]
        obtain ⟨o', r', stq, h1, h1', h2, h3, h4, h5, h6, h7⟩ := this
        refine ⟨o', r', stq, h1, h1', by rw [List.getElem?_append_left (by omega)]; exact h2, h3, h4, h5, fun t => ⟨?_⟩, h7⟩
        rcases (h6 t).w with h | ⟨j, rj, g1, g2, g3, g4⟩ | h
        · exact .inl h
        · exact .inr (.inl ⟨j, rj, g1, g2, by rw [List.getElem?_append_left (List.getElem?_eq_some_iff.1 g3).1]; exact g3, g4⟩)
        · exact .inr (.inr h)
    have hnx : ∀ j o', l[j]? = some o' → ops[i + 1 + j]? = some o' := fun j o' ho' => by rw [show i + 1 + j = i + (j + 1) by omega]; exact hops (j + 1) o' (by simpa using ho')
    have hlast : ∀ (r : Res), (rs ++ [r])[i]? = some r := fun r => by rw [List.getElem?_append_right (by omega), hl]; simp
    have hRn : ∀ (r : Res), resOk st i r = true → ∀ q r', (rs ++ [r])[q]? = some r' → resOk st q r' = true := fun r hr q r' hq => by
      by_cases hqi : q < i
      · rw [List.getElem?_append_left (by omega)] at hq
        exact hRr q r' hq
      · by_cases hqe : q = i
        · subst hqe
          rw [hlast] at hq
          cases hq
          exact hr
        · rw [List.getElem?_eq_none (by simp; omega)] at hq
          cases hq
    rw [vcFastS] at h
    split at h
    · next hb =>
      obtain rfl := Nat.eq_of_beq_eq_true hb
      have hdn := hq0 o hoi
      rw [hdn] at hdi
      refine vcFastS_sound hT hnl hds hdse hq0 hlow hsee (rs := rs ++ [⟨.any, none⟩]) (by simp at hn ⊢; omega) hnx (by simp; omega) h ⟨fun j d r hj hr => ?_, fun t ht => hf.p2 t fun j hj => ht j (by simp; omega), fun b' k' => ?_⟩ (hRn _ rfl) fun q hq => ?_
      · by_cases hji : j = i
        · rw [hji, hdi] at hj; cases hj
        · refine hf.p1 j d r hj ?_
          rcases Nat.lt_or_ge j i with h | h
          · rw [List.getElem?_append_left (by omega)] at hr; exact hr
          · rw [List.getElem?_eq_none (by simp; omega)] at hr; cases hr
      · rw [hf.p3]
        constructor
        · rintro ⟨q, av, hq⟩
          exact ⟨q, av, by rw [List.getElem?_append_left (List.getElem?_eq_some_iff.1 hq).1]; exact hq⟩
        · rintro ⟨q, av, hq⟩
          rcases Nat.lt_or_ge q i with h | h
          · exact ⟨q, av, by rw [List.getElem?_append_left (by omega)] at hq; exact hq⟩
          · by_cases hqi : q = i
            · rw [hqi, hlast] at hq; cases hq
            · rw [List.getElem?_eq_none (by simp; omega)] at hq; cases hq
      · by_cases hqi : q = i
        · unfold HeadOkS
          rw [if_pos hqi, hqi]
          exact hlast _
        · exact hold _ q (by omega)
    · next hb =>
      have hne : i ≠ q0 := fun x => by rw [x, Nat.beq_refl] at hb; cases hb
      obtain ⟨hcl, h⟩ := guardB_out h
      obtain ⟨r, hk, hp⟩ := vcH1_sound hT h
      obtain ⟨hres, hk⟩ := guardB_out hk
      split at hk
      · next d hd =>
        rw [force_eq] at hk
        rw [hd] at hdi
        refine vcFastS_sound hT hnl hds hdse hq0 hlow hsee (rs := rs ++ [r]) (by simp at hn ⊢; omega) hnx (by simp; omega) hk ⟨fun j d' r' hj hr => ?_, fun t ht => ?_, fun b' k' => ?_⟩ (hRn _ hres) fun q hq => ?_
        · show gt ((d, r.av) :: (pre ++ st.tm)) d' = _
          rw [gt_cons]
          by_cases hji : j = i
          · subst hji
            rw [hdi] at hj
            cases hj
            rw [if_pos rfl]
            rw [hlast] at hr
            cases hr
            rfl
          · rcases Nat.lt_or_ge j i with h | h
            · rw [List.getElem?_append_left (by omega)] at hr
              rw [if_neg (fun (e : d = d') => hji (dsOk2_inj hds hj (by rw [← e]; exact hdi)))]
              exact hf.p1 j d' r' hj hr
            · rw [List.getElem?_eq_none (by simp; omega)] at hr; cases hr
        · show gt ((d, r.av) :: (pre ++ st.tm)) t = _
          rw [gt_cons, if_neg (fun (e : d = t) => ht i (by simp; omega) (by rw [← e]; exact hdi))]
          exact hf.p2 t fun j hj => ht j (by simp; omega)
        · have hrs : (∃ (q : Nat) (av : AV), (rs ++ [r])[q]? = some ⟨av, some (b', k')⟩) ↔ (∃ (q : Nat) (av : AV), rs[q]? = some ⟨av, some (b', k')⟩) ∨ r.own = some (b', k') := by
            constructor
            · rintro ⟨q, av, hq⟩
              rcases Nat.lt_or_ge q i with h | h
              · exact .inl ⟨q, av, by rw [List.getElem?_append_left (by omega)] at hq; exact hq⟩
              · by_cases hqi : q = i
                · rw [hqi, hlast] at hq
                  cases hq
                  exact .inr rfl
                · rw [List.getElem?_eq_none (by simp; omega)] at hq; cases hq
            · rintro (⟨q, av, hq⟩ | h)
              · exact ⟨q, av, by rw [List.getElem?_append_left (List.getElem?_eq_some_iff.1 hq).1]; exact hq⟩
              · refine ⟨i, r.av, ?_⟩
                rw [hlast, ← h]
          rw [hrs, ← hf.p3]
          cases ho : r.own with
          | none =>
            show og own b' = some k' ↔ _
            simp
          | some p =>
            obtain ⟨b1, k1⟩ := p
            show og ((b1, k1) :: own) b' = some k' ↔ _
            rw [og_cons]
            have hid : ∀ k2, og own b1 ≠ some k2 := fun k2 hx => by
              obtain ⟨q, av, hq⟩ := (hf.p3 b1 k2).1 hx
              have h1 := (resOk_at (hRr q _ hq)).1
              have h2 : resOk st i ⟨r.av, some (b1, k1)⟩ = true := by rw [← ho]; exact hres
              have h2 := (resOk_at h2).1
              have := (List.getElem?_eq_some_iff.1 hq).1
              simp only at h1 h2
              omega
            by_cases hb1 : b1 = b'
            · subst hb1
              rw [if_pos rfl]
              constructor
              · intro h; cases h; exact .inr rfl
              · rintro (h | h)
                · exact absurd h (hid _)
                · cases h; rfl
            · rw [if_neg hb1]
              constructor
              · exact .inl
              · rintro (h | h)
                · exact h
                · cases h; exact absurd rfl hb1
        · by_cases hqi : q = i
          · subst hqi
            unfold HeadOkS
            rw [if_neg hne]
            refine ⟨o, r, _, hoi, by rw [hd]; rfl, hlast r, hres, hcl, rfl, fun t => ⟨?_⟩, hp⟩
            show gt ((looks ops o).map fun t => (t, gt (pre ++ st.tm) t)) t = .any ∨ _
            by_cases htl : t ∈ looks ops o
            · have e : gt ((looks ops o).map fun t => (t, gt (pre ++ st.tm) t)) t = gt (pre ++ st.tm) t := by rw [gt_looks, if_pos htl]
              by_cases hin : ∃ j : Nat, ds[j]? = some (some t)
              · obtain ⟨j, hj⟩ := hin
                have hjn : j < n := by
                  have := (List.getElem?_eq_some_iff.1 hj).1
                  rw [hdse, List.length_map] at this
                  rw [← hnl]; exact this
                rcases hsee q o t (by simp at hn; omega) hne hoi htl j hj with hm | hm
                · have hjq := hlow q j (by simp at hn; omega) hm
                  obtain ⟨rj, hrj⟩ : ∃ rj, rs[j]? = some rj := ⟨_, List.getElem?_eq_getElem (by omega)⟩
                  refine .inr (.inl ⟨j, rj, hm, hj, by rw [List.getElem?_append_left (by omega)]; exact hrj, ?_⟩)
                  exact e.trans (hf.p1 j t rj hj hrj)
                · refine .inr (.inr ⟨fun j' hj' => by rw [dsOk2_inj hds hj' hj]; exact hm, ?_⟩)
                  refine e.trans (hf.p2 t fun j' hl' hj' => ?_)
                  have e2 := dsOk2_inj hds hj' hj
                  rcases hm with hm | hm
                  · have := hlow j q hjn hm
                    omega
                  · omega
              · refine .inr (.inr ⟨fun j hj => absurd ⟨j, hj⟩ hin, ?_⟩)
                exact e.trans (hf.p2 t fun j _ hj => hin ⟨j, hj⟩)
            · left
              rw [gt_looks, if_neg htl]
          · exact hold _ q (by omega)
      · exact hk.elim
theorem store_any2 {l : List Oper} (hG : F.G = C.G) (hN : F.nt = N.nt) (hT : TysOk C.P C.tys) {Q : Exit → Act → World → Prop}
    (hs : Sat F st a w) {q x y b k : Nat} {ms : List Nat} {ds : List (Option Nat)} {rs : List Res} {t : TypeId} {d : TyD} {oq : Oper} {lv ls0 : List Leaf}
    (hbk : Region.backward .any l.toArray = true) (hM : masksOk l l.length ms = true) (hds : dsOk2 ds = true) (hdse : l.map (·.dst) = ds) (hdl : ds.length = l.length) (hdst : (l.all fun o => dstOk N.nt o.dst) = true) (hrl : rs.length = l.length)
    (hok : ∀ q', q' < l.length → HeadOkS C l ds ms st q b k rs q') (hR : ∀ q' r, rs[q']? = some r → resOk st q' r = true)
    (hstore : (q = l.length ∧ og st.own b = none) ∨ (q < l.length ∧ lookB l ms q x = true ∧ lookB l ms q y = true ∧ ((og st.own b).isSome || (Nat.ble st.nx b && (ms.getD q 0).testBit (b - st.nx))) = true ∧ l[q]? = some oq ∧ oq.op = .store t (.tmp x) (.tmp y) ∧ oq.guard = none ∧ oq.dst = none ∧ tg C.tys t = some d ∧ d.size = k ∧
      leaves (gt (tmB st.tm ds rs (fun _ => true) 0) y) = some lv ∧ gt (tmB st.tm ds rs (fun _ => true) 0) x = .v (.c (.loc b 0)) ∧ og (ownH ds.length rs (fun _ => true) 0 st.own) b = some (.st ls0) ∧ lv.all leafNou = true ∧ Nat.beq lv.length k = true ∧ lv.length = k ∧ ls0.length = k))
    (hfin : ∀ st' a' w', st'.own = (if q = l.length then ownH ds.length rs (fun _ => true) 0 st.own else oset (ownH ds.length rs (fun _ => true) 0 st.own) b (.st lv)) → (∀ t, gt st'.tm t = gt (tmB st.tm ds rs (fun _ => true) 0) t) → Sat F st' a' w' → Q .normal a' w') : wpAny C.P .any l.toArray Q l.toArray.size (Array.replicate l.toArray.size false) a w.drew := by
  have hdsq : ∀ (q' : Nat) o', l[q']? = some o' → ds[q']? = some o'.dst := fun q' o' ho' => by rw [← hdse, List.getElem?_map, ho']; rfl
  -- what is waited for is done
  have hmask : ∀ (listed : Array Bool) (_ : HeadInv .any l.toArray l.length listed) (q : Nat), q < l.length → (∀ o', l[q]? = some o' → ∀ k ∈ dep1 o', listed.getD k false = true) → ∀ j, (ms.getD q 0).testBit j = true → listed.getD j false = true := by
    intro listed hinv q
    induction q using Nat.strongRecOn with
    | _ q ih =>
      intro hq hdone j hj
      obtain ⟨oq, hoq, hlow, hdep, hbits⟩ := masksOk_at hM hq
      obtain ⟨k, hk, hkj⟩ := hbits j hj
      have hdk := hdone oq hoq k hk
      rcases hkj with rfl | hkj
      · exact hdk
      · have hkq := hdep k hk
        refine ih k hkq (by omega) (fun o' ho' k' hk' => ?_) j hkj
        unfold dep1 at hk'
        rw [List.mem_map] at hk'
        obtain ⟨e, he, rfl⟩ := hk'
        rw [List.mem_filter] at he
        exact hinv.closed k o' (by simpa using ho') hdk e (by simpa using he.1) he.2
  have hmr : ∀ (listed : Array Bool) (i : Nat), HeadInv .any l.toArray l.length listed → i ∈ Region.ready .any l.toArray listed → ∀ j, (ms.getD i 0).testBit j = true → listed.getD j false = true := fun listed i hinv hr => by
    obtain ⟨hi1, _, hi3⟩ := ready_mem hr
    refine hmask listed hinv i (by simpa using hi1) fun o' ho' k hk => ?_
    unfold dep1 at hk
    rw [List.mem_map] at hk
    obtain ⟨e, he, rfl⟩ := hk
    rw [List.mem_filter] at he
    exact hi3 o' (by simpa using ho') e (by simpa using he.1) he.2
  have hmq : ∀ (listed : Array Bool), HeadInv .any l.toArray l.length listed → ∀ q, q < l.length → listed.getD q false = true → ∀ j, (ms.getD q 0).testBit j = true → listed.getD j false = true := fun listed hinv q hql hlq => by
    refine hmask listed hinv q hql fun o' ho' k hk => ?_
    unfold dep1 at hk
    rw [List.mem_map] at hk
    obtain ⟨e, he, rfl⟩ := hk
    rw [List.mem_filter] at he
    exact hinv.closed q o' (by simpa using ho') hlq e (by simpa using he.1) he.2
  have hown : ∀ (sel : Nat → Bool) (kb : Blk), q < l.length → og (ownH ds.length rs sel 0 st.own) b = some kb → kb = .st ls0 ∧ lv.length = k ∧ ls0.length = k := fun sel kb hql hkb => by
    rcases hstore with ⟨h1, _⟩ | ⟨_, _, _, _, _, _, _, _, _, _, _, _, hbv, _, _, g4, g5⟩
    · omega
    · have := ownH_mono (sel' := fun _ => true) hR (fun _ _ => rfl) hkb
      rw [hbv] at this
      cases this
      exact ⟨rfl, g4, g5⟩
  obtain ⟨ρ, hs⟩ := hs
  have h0 : Sat F (stS st ds rs (selA (Array.replicate l.toArray.size false)) q b lv (st.nx + l.length)) a w.drew := by
    have hsel : ∀ j, selA (Array.replicate l.toArray.size false) j = false := fun j => getD_replicate_false _ _
    refine ⟨ρ, hs.drew.sub (fun t' => ?_) fun b' => ?_⟩
    · show gt (tmB st.tm ds rs _ 0) t' = _ ∨ gt (tmB st.tm ds rs _ 0) t' = _
      by_cases hin : ∃ j : Nat, ds[j]? = some (some t')
      · obtain ⟨j, hj⟩ := hin
        rw [gt_tmB_in hds hj]
        unfold pickB
        cases rs[0 + j]? with
        | none => exact .inr rfl
        | some r => left; simp only [hsel]; rfl
      · left
        exact gt_tmB_out fun j hj => hin ⟨j, hj⟩
    · show og (bif selA _ q then _ else _) b' = _
      rw [hsel q]
      exact og_ownH_out fun q av blk _ _ h1 _ => by rw [hsel] at h1; cases h1
  have hinv0 : HeadInv .any l.toArray l.toArray.size (Array.replicate l.toArray.size false) := ⟨by simp, fun j oj _ hl => (by rw [getD_replicate_false] at hl; cases hl), fun t _ ht => getD_in (by simpa using ht) (getD_replicate_false _ _)⟩
  have hsz : l.toArray.size = l.length := by simp
  refine wpAny_inv_all (P := C.P) (Q := Q) (md := .any) (ops := l.toArray) hbk (fun listed a w => listed.size = l.toArray.size ∧ Sat F (stS st ds rs (selA listed) q b lv (st.nx + l.length)) a w) (fun listed i a w hi hr hinv ⟨hls, hs⟩ => ?_) (fun listed a w hall ⟨hls, hs⟩ => ?_) l.toArray.size (Array.replicate l.toArray.size false) a w.drew hinv0 ⟨by simp, h0⟩ ?_
  · rw [hsz] at hinv
    have hi : i < l.length := by rw [← hsz]; exact hi
    obtain ⟨ρ, hs⟩ := hs
    obtain ⟨hi1, hi2, _⟩ := ready_mem hr
    have hisz : i < listed.size := by rw [hinv.size]; exact hi1
    have hi0 : selA listed i = false := by
      unfold selA
      unfold Array.getD at hi2 ⊢
      rw [dif_pos hisz] at hi2 ⊢
      exact hi2
    have hmi := hmr listed i hinv hr
    have hset : ∀ j, j ≠ i → selA (listed.setIfInBounds i true) j = selA listed j := fun j hj => by rw [sel_set hisz, if_neg hj]
    have hseti : selA (listed.setIfInBounds i true) i = true := by rw [sel_set hisz, if_pos rfl]
    by_cases hiq : i = q
    · -- the store
      subst hiq
      rcases hstore with ⟨h1, _⟩ | ⟨hql, hlx, hly, hbase, hoq, hop, hgq, hdq, ht, hkk, hlv, hxv, hbv, g2, g3, g4, g5⟩
      · omega
      have hqn : rs[i]? = some ⟨.any, none⟩ := by have := hok i hi; unfold HeadOkS at this; rwa [if_pos rfl] at this
      have hgt : ∀ s, lookB l ms i s = true → gt (tmB st.tm ds rs (selA listed) 0) s = gt (tmB st.tm ds rs (fun _ => true) 0) s := fun s hl => by
        by_cases hin : ∃ j : Nat, ds[j]? = some (some s)
        · obtain ⟨j, hj⟩ := hin
          rw [gt_tmB_in hds hj, gt_tmB_in hds hj, Nat.zero_add]
          have := hmi j (lookB_at hl (by rw [hdse]; exact hj))
          unfold pickB
          simp only [show selA listed j = true from this]
        · rw [gt_tmB_out fun j hj => hin ⟨j, hj⟩, gt_tmB_out fun j hj => hin ⟨j, hj⟩]
      have hob : og (ownH ds.length rs (selA listed) 0 st.own) b = some (.st ls0) := by
        by_cases hex : ∃ (q : Nat) (av : AV) (blk : Blk), q < ds.length ∧ rs[q]? = some ⟨av, some (b, blk)⟩
        · obtain ⟨q, av, blk, q1, q3⟩ := hex
          have e := resOk_at (hR q _ q3)
          simp only at e
          have hq : selA listed q = true := by
            rw [e.2, Bool.or_eq_true] at hbase
            rcases hbase with hbase | hbase
            · cases hbase
            · rw [Bool.and_eq_true, e.1, Nat.add_sub_cancel_left] at hbase
              exact hmi q hbase.2
          have h1 := og_ownH_in hR (n := ds.length) (base := st.own) (Nat.zero_le q) (by omega) q3 hq
          rw [h1]
          exact congrArg some (hown (selA listed) _ hql h1).1
        · have h1 : og (ownH ds.length rs (selA listed) 0 st.own) b = og st.own b := og_ownH_out fun q av blk _ q1 q2 q3 => hex ⟨q, av, blk, by omega, q3⟩
          have h2 : og (ownH ds.length rs (fun _ => true) 0 st.own) b = og st.own b := og_ownH_out fun q av blk _ q1 q2 q3 => hex ⟨q, av, blk, by omega, q3⟩
          rw [h1, ← h2]
          exact hbv
      have hSown : (stS st ds rs (selA listed) i b lv (st.nx + l.length)).own = ownH ds.length rs (selA listed) 0 st.own := by
        unfold stS
        rw [hi0]; rfl
      have hx' : ev (stS st ds rs (selA listed) i b lv (st.nx + l.length)) (.tmp x) = .v (.c (.loc b 0)) := (hgt x hlx).trans hxv
      have hy' : leaves (ev (stS st ds rs (selA listed) i b lv (st.nx + l.length)) (.tmp y)) = some lv := by
        rw [show ev (stS st ds rs (selA listed) i b lv (st.nx + l.length)) (.tmp y) = _ from hgt y hly]
        exact hlv
      have := step_store_st (C := C) (N := N) (ops := l.toArray) (st := stS st ds rs (selA listed) i b lv (st.nx + l.length)) (K := fun st' => st' = { stS st ds rs (selA listed) i b lv (st.nx + l.length) with own := oset (stS st ds rs (selA listed) i b lv (st.nx + l.length)).own b (.st (stLeaves ls0 0 lv)) }) hT hgq hop hdq ht hy' (by rw [g2, hkk, g3]; rfl) hx' (by rw [hSown]; exact hob) (by
        show guardB (Nat.ble (0 + lv.length) ls0.length) _
        rw [show Nat.ble (0 + lv.length) ls0.length = true from Nat.ble_eq_true_of_le (by omega)]
        rfl)
      refine wpOp_of hoq (opWp_mono ?_ (this F a w Q hG hN ⟨ρ, hs⟩))
      rintro a' w' ⟨_, rfl, ρ', hs'⟩
      refine ⟨by rw [Array.size_setIfInBounds]; exact hls, ρ', hs'.congr (fun t' => ?_) fun b' => ?_⟩
      · show gt (tmB st.tm ds rs _ 0) t' = gt (tmB st.tm ds rs _ 0) t'
        by_cases hin : ∃ j : Nat, ds[j]? = some (some t')
        · obtain ⟨j, hj⟩ := hin
          have hji : j ≠ i := fun e => by
            have := hdsq i oq hoq
            rw [← e, hj, hdq] at this
            cases this
          rw [gt_tmB_in hds hj, gt_tmB_in hds hj, Nat.zero_add]
          unfold pickB
          simp only [hset j hji]
        · rw [gt_tmB_out fun j hj => hin ⟨j, hj⟩, gt_tmB_out fun j hj => hin ⟨j, hj⟩]
      · show og (bif selA _ i then oset (ownH ds.length rs _ 0 st.own) b (.st lv) else _) b' = og (oset (stS st ds rs (selA listed) i b lv (st.nx + l.length)).own b (.st (stLeaves ls0 0 lv))) b'
        rw [hseti, hSown]
        show og (oset (ownH ds.length rs _ 0 st.own) b (.st lv)) b' = _
        have e1 : stLeaves ls0 0 lv = lv := by
          unfold stLeaves
          rw [List.take_zero, List.nil_append, Nat.zero_add, List.drop_eq_nil_of_le (by omega), List.append_nil]
        rw [e1, og_oset, og_oset]
        have e2 : ∀ c, og (ownH ds.length rs (selA (listed.setIfInBounds i true)) 0 st.own) c = og (ownH ds.length rs (selA listed) 0 st.own) c := fun c => by
          have := ownH_step (st := st) (rs := rs) (n := ds.length) (r := ⟨.any, none⟩) hR (by omega) hqn hseti hi0 hset c
          exact this
        simp only [e2]
    · have hok' := hok i hi
      unfold HeadOkS at hok'
      rw [if_neg hiq] at hok'
      obtain ⟨o, r, stq, h1, h1', h2, h3, h4, hso, hsee, h5⟩ := hok'
      have hent : EntL (stS st ds rs (selA listed) q b lv (st.nx + l.length)) stq := by
        refine ⟨fun t' => ?_, fun c kc hk => ?_, h4⟩
        · show AvLe (gt (tmB st.tm ds rs (selA listed) 0) t') _
          rcases (hsee t').w with h | ⟨j, rj, e1, e2, e3, e4⟩ | ⟨e1, e2⟩
          · rw [h]; exact .any _
          · rw [e4, gt_tmB_in hds e2, Nat.zero_add]
            unfold pickB
            rw [e3]
            simp only [show selA listed j = true from hmi j e1]
            exact .refl _
          · rw [e2]
            by_cases hin : ∃ j : Nat, ds[j]? = some (some t')
            · obtain ⟨j, hj⟩ := hin
              have hjl : j < l.length := by have := (List.getElem?_eq_some_iff.1 hj).1; omega
              have hns : selA listed j = false := by
                cases hq : selA listed j with
                | false => rfl
                | true =>
                  exfalso
                  rcases e1 j hj with h | h
                  · have : selA listed i = true := hmq listed hinv j hjl hq i h
                    rw [hi0] at this
                    cases this
                  · rw [h, hi0] at hq
                    cases hq
              rw [gt_tmB_in hds hj, Nat.zero_add]
              unfold pickB
              rw [List.getElem?_eq_getElem (show j < rs.length by omega)]
              simp only [hns]
              exact .refl _
            · rw [gt_tmB_out fun j hj => hin ⟨j, hj⟩]
              exact .refl _
        · rw [hso, og_oset] at hk
          have hbs : ∀ c kc, og st.own c = some kc → og (ownH ds.length rs (selA listed) 0 st.own) c = some kc := fun c kc h => by
            rw [og_ownH_out fun q av blk _ _ _ q3 => ?_]
            · exact h
            · have := (resOk_at (hR q _ q3)).2
              simp only at this
              rw [this] at h
              cases h
          by_cases hcb : c = b
          · subst hcb
            rw [if_pos rfl] at hk
            cases hc0 : og st.own c with
            | none => rw [hc0] at hk; cases hk
            | some k0 =>
              rw [hc0] at hk
              cases hk
              have h6 := hbs c k0 hc0
              have hql : q < l.length := by
                rcases hstore with ⟨_, h⟩ | ⟨h, _⟩
                · rw [h] at hc0; cases hc0
                · exact h
              obtain ⟨rfl, g4, g5⟩ := hown _ _ hql h6
              cases hq : selA listed q with
              | false =>
                refine ⟨.st ls0, ?_, by rw [← g5]; exact BlkLe.st (lsLe_any ls0)⟩
                show og (bif selA listed q then _ else _) c = _
                rw [hq]
                exact h6
              | true =>
                refine ⟨.st lv, ?_, by rw [← g4]; exact BlkLe.st (lsLe_any lv)⟩
                show og (bif selA listed q then _ else _) c = _
                rw [hq]
                show og (oset _ c (.st lv)) c = _
                rw [og_oset, if_pos rfl, h6]
                rfl
          · rw [if_neg hcb] at hk
            refine ⟨kc, ?_, .refl _⟩
            show og (bif selA listed q then _ else _) c = _
            cases selA listed q with
            | false => exact hbs c kc hk
            | true =>
              show og (oset _ b (.st lv)) c = _
              rw [og_oset, if_neg hcb]
              exact hbs c kc hk
      have hp := h5 (F.fo ρ (stS st ds rs (selA listed) q b lv (st.nx + l.length)) stq) ρ a w Q hG (hs.entO hent)
      refine wpOp_of h1 (opWp_mono ?_ hp)
      rintro a' w' ⟨v, rfl, hmd⟩
      have hdi := hdsq i o h1
      obtain ⟨dd, hdd⟩ := Option.isSome_iff_exists.1 h1'
      rw [hdd] at hdi ⊢
      have hbn : ∀ b' k', r.own = some (b', k') → selA listed q = true → b' ≠ b := fun b' k' hb' hq e => by
        subst e
        obtain ⟨av, own⟩ := r
        simp only at hb'
        subst hb'
        have e := resOk_at (hR i _ h2)
        simp only at e
        rcases hstore with ⟨h1, _⟩ | ⟨hql, _, _, hbase, _⟩
        · have : selA listed q = false := by
            unfold selA Array.getD
            rw [dif_neg (by rw [hls, hsz]; omega)]
          rw [this] at hq
          cases hq
        rw [e.2, Bool.or_eq_true] at hbase
        rcases hbase with hbase | hbase
        · cases hbase
        · rw [Bool.and_eq_true, e.1, Nat.add_sub_cancel_left] at hbase
          have := hmq listed hinv q hql hq i hbase.2
          rw [show listed.getD i false = selA listed i from rfl, hi0] at this
          cases this
      have hnewH : ∀ b' k', r.own = some (b', k') → og (ownH ds.length rs (selA listed) 0 st.own) b' = none := fun b' k' hb => by
        obtain ⟨av, own⟩ := r
        simp only at hb
        subst hb
        have h0 := resOk_at (hR i _ h2)
        rw [og_ownH_out (fun q' av' blk _ q1 q2 q3 => ?_)]
        · exact h0.2
        · have h0' := (resOk_at (hR q' _ q3)).1
          have hqi : q' = i := by have := h0.1; simp only at this h0'; omega
          subst hqi
          rw [hi0] at q2
          cases q2
      have hnew : ∀ b' k', r.own = some (b', k') → og (stS st ds rs (selA listed) q b lv (st.nx + l.length)).own b' = none := fun b' k' hb => by
        show og (bif selA listed q then _ else _) b' = none
        cases hq : selA listed q with
        | false => exact hnewH b' k' hb
        | true =>
          show og (oset _ b (.st lv)) b' = none
          rw [og_oset, if_neg (hbn b' k' hb hq)]
          exact hnewH b' k' hb
      have hd : dstOk F.nt (some dd) = true := by
        rw [hN, ← hdd]
        exact List.all_eq_true.1 hdst o (List.mem_of_getElem? h1)
      obtain ⟨ρ', hs'⟩ := hs.add (hmd.lift hent hnew) hd
      refine ⟨by rw [Array.size_setIfInBounds]; exact hls, ρ', hs'.congr (fun t' => ?_) fun c => ?_⟩
      · show gt (tmB st.tm ds rs (selA (listed.setIfInBounds i true)) 0) t' = gt ((dd, r.av) :: tmB st.tm ds rs (selA listed) 0) t'
        rw [gt_cons]
        by_cases hin : ∃ j : Nat, ds[j]? = some (some t')
        · obtain ⟨j, hj⟩ := hin
          rw [gt_tmB_in hds hj, gt_tmB_in hds hj, Nat.zero_add]
          by_cases hji : j = i
          · subst hji
            rw [hdi] at hj
            cases hj
            rw [if_pos rfl]
            unfold pickB
            simp only [h2, hseti]
            rfl
          · have hdt : dd ≠ t' := by
              rintro rfl
              exact hji (dsOk2_inj hds hj hdi)
            rw [if_neg hdt]
            unfold pickB
            simp only [hset j hji]
        · have hin' : ∀ j : Nat, ds[j]? ≠ some (some t') := fun j hj => hin ⟨j, hj⟩
          have hdt : dd ≠ t' := by rintro rfl; exact hin' i hdi
          rw [gt_tmB_out hin', gt_tmB_out hin', if_neg hdt]
      · show og (bif selA (listed.setIfInBounds i true) q then oset (ownH ds.length rs (selA (listed.setIfInBounds i true)) 0 st.own) b (.st lv) else ownH ds.length rs (selA (listed.setIfInBounds i true)) 0 st.own) c = og ((stS st ds rs (selA listed) q b lv (st.nx + l.length)).add (some dd) r).own c
        have hstep := ownH_step (st := st) (rs := rs) (n := ds.length) (r := r) hR (by omega) h2 hseti hi0 hset
        rw [hset q (fun x => hiq x.symm)]
        cases hq : selA listed q with
        | false =>
          show og (ownH ds.length rs (selA (listed.setIfInBounds i true)) 0 st.own) c = _
          rw [hstep c]
          have e : (stS st ds rs (selA listed) q b lv (st.nx + l.length)).own = ownH ds.length rs (selA listed) 0 st.own := by unfold stS; rw [hq]; rfl
          unfold St.add
          simp only [e]
          cases r.own <;> rfl
        | true =>
          show og (oset (ownH ds.length rs (selA (listed.setIfInBounds i true)) 0 st.own) b (.st lv)) c = _
          have e : (stS st ds rs (selA listed) q b lv (st.nx + l.length)).own = oset (ownH ds.length rs (selA listed) 0 st.own) b (.st lv) := by unfold stS; rw [hq]; rfl
          unfold St.add
          simp only [e]
          rw [og_oset, hstep b, hstep c]
          obtain ⟨av', own'⟩ := r
          cases own' with
          | none =>
            show _ = og (oset _ b (.st lv)) c
            rw [og_oset]
          | some p =>
            obtain ⟨b', k'⟩ := p
            have hne := hbn b' k' rfl hq
            show (if c = b then (og ((b', k') :: _) b).map _ else og ((b', k') :: _) c) = og ((b', k') :: oset _ b (.st lv)) c
            rw [og_cons, if_neg hne, og_cons, og_cons, og_oset]
            by_cases hcb : c = b
            · subst hcb
              rw [if_pos rfl, if_neg hne, if_pos rfl]
            · rw [if_neg hcb, if_neg hcb]
  · have hcs : ∀ j, j < l.length → selA listed j = true := fun j hj => hall j (by rw [hsz]; exact hj)
    refine hfin _ a w ?_ ?_ hs
    · unfold stS
      rcases hstore with ⟨h1, _⟩ | ⟨hql, _⟩
      · have : selA listed q = false := by
          unfold selA Array.getD
          rw [dif_neg (by rw [hls, hsz]; omega)]
        rw [if_pos h1, this, ownH_sel (sel' := fun _ => true) (fun k hk => hcs k (by omega))]
        rfl
      · rw [if_neg (by omega), hcs q hql, ownH_sel (sel' := fun _ => true) (fun k hk => hcs k (by omega))]
        rfl
    · intro t'
      show gt (tmB st.tm ds rs (selA listed) 0) t' = _
      rw [tmB_sel (sel' := fun _ => true) (fun k hk => hcs k (by omega))]
  · rw [List.countP_eq_length.2 fun i hi => ?_, List.length_range]
    have : i < l.toArray.size := List.mem_range.1 hi
    rw [getD_in (by simpa using this) (getD_replicate_false _ _)]
    rfl
theorem store_any (hT : TysOk C.P C.tys) {l : List Oper} {K : St → Prop} (h : StoreOb C N l st K) (hG : F.G = C.G) (hN : F.nt = N.nt) {Q : Exit → Act → World → Prop}
    (hQ : ∀ st' a' w', K st' → Sat F st' a' w' → Q .normal a' w') (hs : Sat F st a w) : wpAny C.P .any l.toArray Q l.toArray.size (Array.replicate l.toArray.size false) a w.drew := by
  obtain ⟨q, ms, hB, hdst, hv⟩ := h.w
  unfold drawSB at hB
  simp only [Bool.and_eq_true] at hB
  obtain ⟨⟨⟨⟨hbk, hM⟩, hds⟩, hl2⟩, hsee⟩ := hB
  have hlow : ∀ i j, i < l.length → (ms.getD i 0).testBit j = true → j < i := fun i j hi hj => by
    obtain ⟨_, _, h1, _⟩ := masksOk_at hM hi
    exact h1 j hj
  have hsee' : ∀ i o t, i < l.length → i ≠ q → l[i]? = some o → t ∈ looks l o → ∀ j : Nat, (l.map (·.dst))[j]? = some (some t) → (ms.getD i 0).testBit j = true ∨ (ms.getD j 0).testBit i = true ∨ j = i := fun i o s hi hiq ho hs j hj => by
    have h1 := List.all_eq_true.1 hsee i (List.mem_range.2 hi)
    rw [ho, show Nat.beq i q = false from nbeq_f hiq] at h1
    simp only [Bool.false_or] at h1
    have h2 := List.all_eq_true.1 (List.all_eq_true.1 h1 s hs)
    rw [List.getElem?_map] at hj
    cases hoj : l[j]? with
    | none => rw [hoj] at hj; cases hj
    | some o' =>
      rw [hoj] at hj
      have hd : o'.dst = some s := by simpa using hj
      have h3 := h2 j (List.mem_range.2 (List.getElem?_eq_some_iff.1 hoj).1)
      simp only [hoj, hd, Nat.beq_refl, Bool.not_true, Bool.false_or, Bool.or_eq_true] at h3
      rcases h3 with (h | h) | h
      · exact .inl h
      · exact .inr (.inl h)
      · exact .inr (.inr (Nat.eq_of_beq_eq_true h))
  -- what comes of it, however the store is
  have key : ∀ (b k : Nat) (K' : List (Nat × AV) → List (Nat × Blk) → Prop), (∀ o, l[q]? = some o → o.dst = none) → vcFastS C l st q b k 0 l [] [] K' → ∃ (rs : List Res) (pre : List (Nat × AV)) (own : List (Nat × Blk)), K' pre own ∧ rs.length = l.length ∧ (∀ q', q' < l.length → HeadOkS C l (l.map (·.dst)) ms st q b k rs q') ∧ (∀ q' r, rs[q']? = some r → resOk st q' r = true) ∧
      (∀ s, gt (pre ++ st.tm) s = gt (tmB st.tm (l.map (·.dst)) rs (fun _ => true) 0) s) ∧ ∀ c, og (own ++ st.own) c = og (ownH (l.map (·.dst)).length rs (fun _ => true) 0 st.own) c := fun b k K' hq0 hv => by
    obtain ⟨rs, pre, own, hK, hrl, hfs, hok⟩ := vcFastS_sound hT (n := l.length) (l := l) (i := 0) (rs := []) (ms := ms) rfl hds rfl hq0 hlow hsee' (by simp) (fun j o ho => by rw [Nat.zero_add]; exact ho) rfl hv ⟨fun j d r _ hr => by simp at hr, fun _ _ => rfl, fun b k => by simp [og]⟩ (fun q r hr => by simp at hr) (fun q hq => by omega)
    have hR : ∀ q' r, rs[q']? = some r → resOk st q' r = true := fun q' r' hq' => by
      have hlt : q' < l.length := by
        rcases Nat.lt_or_ge q' l.length with h | h
        · exact h
        · rw [List.getElem?_eq_none (by omega)] at hq'; cases hq'
      have := hok q' hlt
      unfold HeadOkS at this
      split at this
      · rw [this] at hq'; cases hq'; rfl
      · obtain ⟨_, r'', _, _, _, g2, g3, _⟩ := this
        rw [hq'] at g2
        cases g2
        exact g3
    refine ⟨rs, pre, own, hK, hrl, hok, hR, fun s => ?_, fun c => ?_⟩
    · by_cases hin : ∃ j : Nat, (l.map (·.dst))[j]? = some (some s)
      · obtain ⟨j, hj⟩ := hin
        have hjl : j < rs.length := by have := (List.getElem?_eq_some_iff.1 hj).1; rw [List.length_map] at this; omega
        rw [gt_tmB_in hds hj, Nat.zero_add, hfs.p1 j s _ hj (List.getElem?_eq_getElem hjl)]
        unfold pickB
        rw [List.getElem?_eq_getElem hjl]
        rfl
      · rw [gt_tmB_out fun j hj => hin ⟨j, hj⟩, hfs.p2 s fun j _ hj => hin ⟨j, hj⟩]
    · have happ : ∀ (l1 l2 : List (Nat × Blk)), og (l1 ++ l2) c = match og l1 c with | some k => some k | none => og l2 c := fun l1 l2 => by
        induction l1 with
        | nil => rfl
        | cons p l1 ih =>
          obtain ⟨p1, p2⟩ := p
          show og ((p1, p2) :: (l1 ++ l2)) c = _
          rw [og_cons, og_cons]
          by_cases h : p1 = c
          · rw [if_pos h, if_pos h]
          · rw [if_neg h, if_neg h]; exact ih
      rw [happ]
      cases ho : og own c with
      | some k =>
        obtain ⟨q', av, hq'⟩ := (hfs.p3 c k).1 ho
        rw [og_ownH_in hR (n := (l.map (·.dst)).length) (Nat.zero_le q') (by have := (List.getElem?_eq_some_iff.1 hq').1; rw [List.length_map]; omega) hq' rfl]
      | none =>
        rw [og_ownH_out fun q' av blk _ _ _ h => ?_]
        have := (hfs.p3 c blk).2 ⟨q', av, h⟩
        rw [ho] at this
        cases this
  unfold vcS at hv
  split at hv
  · next t x y hst =>
    rw [hst] at hl2
    simp only [Bool.and_eq_true] at hl2
    obtain ⟨⟨hql, hlx⟩, hly⟩ := hl2
    have hql := blt_lt hql
    split at hv
    · next d ht =>
      split at hv
      case h_2 => exact hv.elim
      rename_i b u htb
      obtain ⟨hbase', hv⟩ := guardB_out hv
      have hbase : ((og st.own b).isSome || (Nat.ble st.nx b && (ms.getD q 0).testBit (b - st.nx))) = true := by
        unfold tgtB at htb
        split at htb
        · next j hj =>
          cases htb
          have h1 := List.find?_some hj
          have h2 : (l.map (·.dst))[j]? = some (some x) := by
            split at h1
            · next o ho =>
              split at h1
              · next d' hd' =>
                rw [List.getElem?_map, ho, Option.map_some, hd', Nat.eq_of_beq_eq_true h1]
              · cases h1
            · cases h1
          rw [Nat.add_sub_cancel_left, lookB_at hlx h2, Bool.and_true, show Nat.ble st.nx (st.nx + j) = true from Nat.ble_eq_true_of_le (Nat.le_add_right _ _), Bool.or_true]
        · split at htb
          · cases htb
            rw [Bool.false_or] at hbase'
            rw [hbase', Bool.true_or]
          · cases htb
      obtain ⟨oq, hoq, hop, hgq, hdq⟩ : ∃ o, l[q]? = some o ∧ o.op = .store t (.tmp x) (.tmp y) ∧ o.guard = none ∧ o.dst = none := by
        unfold storeAt at hst
        split at hst
        · next o ho =>
          split at hst
          · next h1 h2 h3 => cases hst; exact ⟨o, ho, h1, h2, h3⟩
          · cases hst
        · cases hst
      obtain ⟨rs, pre, own, hK, hrl, hok, hR, hgt, hog⟩ := key b d.size _ (fun o ho => by rw [hoq] at ho; cases ho; exact hdq) hv
      unfold finS at hK
      split at hK
      · next lv b' ls0 hlv hxv hbv =>
        rw [hgt] at hlv hxv
        rw [hog] at hbv
        obtain ⟨hg, hKK⟩ := guardB_out hK
        clear hK
        simp only [Bool.and_eq_true] at hg
        obtain ⟨⟨⟨⟨g1, g2⟩, g3⟩, g4⟩, g5⟩ := hg
        obtain rfl : b = b' := (Nat.eq_of_beq_eq_true g1).symm
        have g4' := Nat.eq_of_beq_eq_true g4
        have g5' := Nat.eq_of_beq_eq_true g5
        exact store_any2 (lv := lv) (ls0 := ls0) hG hN hT hs hbk hM hds rfl (by simp) hdst hrl hok hR (.inr ⟨hql, hlx, hly, hbase, hoq, hop, hgq, hdq, ht, rfl, hlv, hxv, hbv, g2, g3, g4', g5'⟩) (fun st' a' w' ho htm hS => hQ _ a' w' hKK (by
          obtain ⟨ρ, hS⟩ := hS
          rw [if_neg (by omega)] at ho
          exact ⟨ρ, hS.congr (fun t' => (hgt t').trans (htm t').symm) (fun c => by
            rw [ho]
            show og (oset (own ++ st.own) b (.st lv)) c = _
            rw [og_oset, og_oset, hog, hog])⟩))
      · exact hK.elim
    · exact hv.elim
  · next hst =>
    rw [hst] at hl2
    have hql := Nat.eq_of_beq_eq_true hl2
    obtain ⟨hbn, hv⟩ := guardB_out hv
    have hbn : og st.own (st.nx + l.length) = none := by simpa using hbn
    obtain ⟨rs, pre, own, hK, hrl, hok, hR, hgt, hog⟩ := key (st.nx + l.length) 0 _ (fun o ho => by rw [hql, List.getElem?_eq_none (Nat.le_refl _)] at ho; cases ho) hv
    exact store_any2 (x := 0) (y := 0) (t := 0) (d := ⟨.other, 0, 0, []⟩) (oq := default) (lv := []) (ls0 := []) hG hN hT hs hbk hM hds rfl (by simp) hdst hrl hok hR (.inl ⟨hql, hbn⟩) (fun st' a' w' ho htm hS => hQ _ a' w' hK (by
      obtain ⟨ρ, hS⟩ := hS
      rw [if_pos hql] at ho
      exact ⟨ρ, hS.congr (fun t' => (hgt t').trans (htm t').symm) (fun c => by
        rw [ho]
        exact hog c)⟩))
theorem store_sound (hT : TysOk C.P C.tys) (hm : C.P.follows .mixedOrders = true) {l : List Oper} {K : St → Prop} (h : StoreOb C N l st K) (hG : F.G = C.G) (hN : F.nt = N.nt) {Q : Exit → Act → World → Prop}
    (hQ : ∀ st' a' w', K st' → Sat F st' a' w' → Q .normal a' w') (hs : Sat F st a w) (id : Nat) : (Code.region id l.toArray true).wp C.P Q a w := wp_region_any hm (store_any hT h hG hN hQ hs)
end
end Go.VG

