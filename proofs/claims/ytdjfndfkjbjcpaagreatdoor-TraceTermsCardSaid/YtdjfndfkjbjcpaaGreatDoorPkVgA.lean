/- Own texts joined: VgA, VgB, VgC, VgE, VgF, VgG, VgH. -/
import Derived.WalkKit
import Derived.Laws.OwnMore
import Derived.Laws.MakeOwn
import Derived.Below
/- States in letters: what the slots of a frame and the memory of a call's own hold, apart from the numbers of the blocks; how a state is kept. -/
namespace Go.VG
open Go Go.RowKit

structure Ext (M : Nat → Prop) (w w' : World) : Prop where
  size : w.heap.size ≤ w'.heap.size
  keep : ∀ k, k < w.heap.size → ¬ M k → w'.heap[k]? = w.heap[k]?
theorem Ext.refl (M : Nat → Prop) (w : World) : Ext M w w := ⟨Nat.le_refl _, fun _ _ _ => rfl⟩
theorem Ext.trans {M : Nat → Prop} {a b c : World} (h : Ext M a b) (k : Ext M b c) : Ext M a c :=
  ⟨Nat.le_trans h.size k.size, fun i hi hm => (k.keep i (Nat.lt_of_lt_of_le hi h.size) hm).trans (h.keep i hi hm)⟩
theorem Ext.mono {M M' : Nat → Prop} {a b : World} (h : Ext M a b) (hM : ∀ k, k < a.heap.size → M k → M' k) : Ext M' a b :=
  ⟨h.size, fun i hi hm => h.keep i hi fun x => hm (hM i hi x)⟩
theorem Ext.of_below {M : Nat → Prop} {w w' : World} (h : Below w.heap.size w w') : Ext M w w' := ⟨h.size, fun k hk _ => h.block k hk⟩

theorem nbeq_t {k t : Nat} (h : k = t) : Nat.beq k t = true := by subst h; exact Nat.beq_refl k
theorem nbeq_f {k t : Nat} (h : k ≠ t) : Nat.beq k t = false := by
  cases hb : Nat.beq k t with
  | false => rfl
  | true => exact absurd (Nat.eq_of_beq_eq_true hb) h
def NoU (_ : List Value) : Prop := True
def nou (_ : Value) : Bool := true

inductive Leaf : Type 1
  | any
  | x (v : Value)
  | p (φ : World → Value → Prop)
  | loc (b o : Nat)
  | row (b : Nat)
  | rl (b k i j : Nat)
  | rs (b k l m : Nat) (V : Value → Prop)
  | fn (f : FuncId) (bs : List Nat)
  | ptr (k : Nat) (f : Nat → Leaf)
  | sl (k : Nat) (α : Type) (mk : α → Nat → Leaf) (Z : Nat → α) (n : Nat)
inductive V1 : Type 1
  | c (l : Leaf)
  | agg (l : List Leaf)
inductive AV : Type 1
  | any
  | v (a : V1)
  | tup (l : List V1)
inductive Blk : Type 1
  | st (l : List Leaf)
  | rw (k : Nat) (e : TypeId) (u : Bool) (α : Type) (mk : α → Nat → Leaf) (Z : Nat → α) (n : Nat)

def pureL : Leaf → Bool
  | .loc _ _ => false
  | .row _ => false
  | .rl .. => false
  | .rs .. => false
  | .fn .. => false
  | _ => true
def vblk : Value → Option Nat
  | .pointer (some a) => some a.block
  | .slice (some a) _ _ => some a.block
  | _ => none
def locV (u : Value) (o : Nat) : Value :=
  match u with
  | .pointer (some a) => .pointer (some ⟨a.block, o, none⟩)
  | .slice (some a) _ _ => .pointer (some ⟨a.block, o, none⟩)
  | _ => .pointer none

def subV (u : Value) (o l m : Nat) : Value :=
  match u with
  | .slice (some a) _ cap => .slice (some ⟨a.block, o, none⟩) m (cap - l)
  | _ => .slice none 0 0
def lenV : Value → Nat
  | .slice _ n _ => n
  | _ => 0
def Leaf.at (ρ : Nat → Value) (w : World) : Leaf → Value → Prop
  | .any, _ => True
  | .x u, v => v = u
  | .p φ, v => nou v = true ∧ φ w v
  | .loc b o, v => v = locV (ρ b) o
  | .row b, v => nou v = true ∧ v = ρ b
  | .rl b k i j, v => v = locV (ρ b) (i * k + j)
  | .rs b k l m V, v => v = subV (ρ b) (l * k) l m ∧ 1 ≤ m ∧ l + m ≤ lenV (ρ b) ∧ V v
  | .fn f bs, v => v = .func (.func f) #[] (bs.map fun b => locV (ρ b) 0).toArray
  | .ptr k f, v => ∃ g off, v = .pointer (some ⟨g, off, none⟩) ∧ ∀ j, j < k → ∃ u, w.cell? ⟨g, off + j, none⟩ = some u ∧ u.oneCell' = true ∧ ∀ ρ', (f j).at ρ' w u
  | .sl k _ mk Z n, v => ∃ a cap, v = .slice a n cap ∧ n ≤ cap ∧ (a = none → n = 0) ∧ ∀ g off sp, a = some ⟨g, off, sp⟩ → sp = none ∧ ∀ i j, i < n → j < k → ∃ u, w.cell? ⟨g, off + (i * k + j), none⟩ = some u ∧ u.oneCell' = true ∧ ∀ ρ', (mk (Z i) j).at ρ' w u
def CellsR (R : Leaf → Value → Prop) : List Leaf → List Value → Prop
  | [], [] => True
  | l :: ls, u :: us => (u.oneCell' = true ∧ R l u) ∧ CellsR R ls us
  | _, _ => False
def V1.at (ρ : Nat → Value) (w : World) : V1 → Value → Prop
  | .c l, v => v.oneCell' = true ∧ l.at ρ w v
  | .agg ls, v => ∃ cs : List Value, v = .agg cs.toArray ∧ CellsR (Leaf.at ρ w) ls cs
def TupR (R : V1 → Value → Prop) : List V1 → List Value → Prop
  | [], [] => True
  | l :: ls, u :: us => R l u ∧ TupR R ls us
  | _, _ => False
def AV.at (ρ : Nat → Value) (w : World) : AV → Value → Prop
  | .any, _ => True
  | .v a, u => a.at ρ w u
  | .tup ts, u => ∃ vs : List Value, u = .tuple vs.toArray ∧ TupR (V1.at ρ w) ts vs

def gt : List (Nat × AV) → Nat → AV
  | [], _ => .any
  | (k, a) :: l, t => bif Nat.beq k t then a else gt l t
def og : List (Nat × Blk) → Nat → Option Blk
  | [], _ => none
  | (k, a) :: l, t => bif Nat.beq k t then some a else og l t
def oset : List (Nat × Blk) → Nat → Blk → List (Nat × Blk)
  | [], _, _ => []
  | (k, a) :: l, t, b => bif Nat.beq k t then (k, b) :: oset l t b else (k, a) :: oset l t b
def oerase : List (Nat × Blk) → Nat → List (Nat × Blk)
  | [], _ => []
  | (k, a) :: l, t => bif Nat.beq k t then oerase l t else (k, a) :: oerase l t
structure St where
  tm : List (Nat × AV)
  own : List (Nat × Blk)
  nx : Nat
structure Fix where
  O : Nat → Prop
  G : World → Prop
  w0 : World
  nt : Nat

theorem gt_cons (k : Nat) (a : AV) (l : List (Nat × AV)) (t : Nat) : gt ((k, a) :: l) t = if k = t then a else gt l t := by
  rw [gt]
  by_cases h : k = t
  · rw [if_pos h, (nbeq_t h)]; rfl
  · rw [if_neg h, (nbeq_f h)]; rfl
theorem og_cons (k : Nat) (a : Blk) (l : List (Nat × Blk)) (t : Nat) : og ((k, a) :: l) t = if k = t then some a else og l t := by
  rw [og]
  by_cases h : k = t
  · rw [if_pos h, (nbeq_t h)]; rfl
  · rw [if_neg h, (nbeq_f h)]; rfl
theorem og_oset (t : Nat) (b : Blk) : ∀ (l : List (Nat × Blk)) (s : Nat), og (oset l t b) s = if s = t then (og l t).map fun _ => b else og l s
  | [], s => by simp [oset, og]
  | (k, a) :: l, s => by
    have ih := og_oset t b l s
    rw [oset]
    by_cases h : k = t
    · rw [(nbeq_t h)]
      simp only [cond_true]
      subst h
      rw [og_cons, ih, og_cons, og_cons]
      by_cases hs : k = s
      · subst hs; simp
      · rw [if_neg hs, if_neg (fun h => hs h.symm), if_neg hs, if_neg (fun h => hs h.symm)]
    · rw [(nbeq_f h)]
      simp only [cond_false]
      rw [og_cons, ih, og_cons, og_cons, if_neg h]
      by_cases hs : k = s
      · subst hs; simp [h]
      · rw [if_neg hs, if_neg hs]
theorem og_oerase (t : Nat) : ∀ (l : List (Nat × Blk)) (s : Nat), og (oerase l t) s = if s = t then none else og l s
  | [], s => by simp [oerase, og]
  | (k, a) :: l, s => by
    have ih := og_oerase t l s
    rw [oerase]
    by_cases h : k = t
    · rw [(nbeq_t h)]
      simp only [cond_true]
      subst h
      rw [ih, og_cons]
      by_cases hs : s = k
      · rw [if_pos hs, if_pos hs]
      · rw [if_neg hs, if_neg hs, if_neg (fun h => hs h.symm)]
    · rw [(nbeq_f h)]
      simp only [cond_false]
      rw [og_cons, ih, og_cons]
      by_cases hs : k = s
      · subst hs; simp [h]
      · rw [if_neg hs, if_neg hs]

def Mt (F : Fix) (ρ : Nat → Value) (own : List (Nat × Blk)) (k : Nat) : Prop := F.O k ∨ ∃ b, (og own b).isSome = true ∧ vblk (ρ b) = some k
def Agr (own : List (Nat × Blk)) (ρ ρ' : Nat → Value) : Prop := ∀ b, (og own b).isSome = true → ρ' b = ρ b
theorem Agr.refl (own : List (Nat × Blk)) (ρ : Nat → Value) : Agr own ρ ρ := fun _ _ => rfl
def Rob (F : Fix) (ρ : Nat → Value) (own : List (Nat × Blk)) (w : World) (R : (Nat → Value) → World → Prop) : Prop :=
  ∀ ρ' w', Agr own ρ ρ' → Ext (Mt F ρ own) w w' → R ρ' w'
def Blk.At (w : World) (R : Leaf → Value → Prop) (v : Value) : Blk → Prop
  | .st ls => ∃ g c e, v = .pointer (some ⟨g, 0, none⟩) ∧ w.heap[g]? = some (.cells c e (0, 0)) ∧ CellsR R ls c.toList ∧ NoU c.toList
  | .rw k e _ _ mk Z n => (v = .slice none 0 0 ∧ n = 0) ∨ ∃ g cap c, v = .slice (some ⟨g, 0, none⟩) n cap ∧ w.heap[g]? = some (.cells c e (0, 0)) ∧ n ≤ cap ∧ cap ≤ maxLen ∧ c.size = cap * k ∧ NoU c.toList ∧
      ∀ i j, i < n → j < k → pureL (mk (Z i) j) = true ∧ ∃ x, c[i * k + j]? = some x ∧ x.oneCell' = true ∧ R (mk (Z i) j) x
structure SatE (F : Fix) (ρ : Nat → Value) (st : St) (a : Act) (w : World) : Prop where
  dfr : a.defers = []
  nt : a.tmps.size = F.nt
  tm : ∀ t, Rob F ρ st.own w fun ρ' w' => (gt st.tm t).at ρ' w' (a.tmps.getD t undef)
  own : ∀ b k, og st.own b = some k → k.At w (fun l u => Rob F ρ st.own w fun ρ' w' => l.at ρ' w' u) (ρ b)
  inj : ∀ b b' k, (og st.own b).isSome = true → (og st.own b').isSome = true → vblk (ρ b) = some k → vblk (ρ b') = some k → b = b'
  base : ∀ b k, (og st.own b).isSome = true → vblk (ρ b) = some k → F.w0.heap.size ≤ k
  dis : ∀ b k, (og st.own b).isSome = true → vblk (ρ b) = some k → ¬ F.O k
  below : Below F.w0.heap.size F.w0 w
  gl : Rob F ρ st.own w fun _ w' => F.G w'
  oo : ∀ k, F.O k → k < w.heap.size ∧ ∀ c e f, w.heap[k]? = some (.cells c e f) → NoU c.toList
def Sat (F : Fix) (st : St) (a : Act) (w : World) : Prop := ∃ ρ, SatE F ρ st a w

theorem Rob.now {F : Fix} {ρ : Nat → Value} {own : List (Nat × Blk)} {w : World} {R : (Nat → Value) → World → Prop} (h : Rob F ρ own w R) : R ρ w := h ρ w (Agr.refl _ _) (Ext.refl _ _)
theorem Rob.mono {F : Fix} {ρ : Nat → Value} {own : List (Nat × Blk)} {w : World} {R R' : (Nat → Value) → World → Prop} (h : Rob F ρ own w R) (hR : ∀ ρ' w', R ρ' w' → R' ρ' w') : Rob F ρ own w R' := fun ρ' w' h1 h2 => hR _ _ (h ρ' w' h1 h2)
theorem Rob.ext {F : Fix} {ρ : Nat → Value} {own : List (Nat × Blk)} {w w1 : World} {R : (Nat → Value) → World → Prop} (h : Rob F ρ own w R) (hx : Ext (Mt F ρ own) w w1) : Rob F ρ own w1 R := fun ρ' w' h1 h2 => h ρ' w' h1 (hx.trans h2)
theorem CellsR.mono {R R' : Leaf → Value → Prop} (hR : ∀ l u, R l u → R' l u) : ∀ {ls : List Leaf} {us : List Value}, CellsR R ls us → CellsR R' ls us
  | [], [], _ => trivial
  | _ :: _, _ :: _, ⟨⟨h1, h2⟩, h3⟩ => ⟨⟨h1, hR _ _ h2⟩, h3.mono hR⟩
  | [], _ :: _, h => h.elim
  | _ :: _, [], h => h.elim
theorem CellsR.len {R : Leaf → Value → Prop} : ∀ {ls : List Leaf} {us : List Value}, CellsR R ls us → us.length = ls.length
  | [], [], _ => rfl
  | _ :: _, _ :: _, ⟨_, h3⟩ => by simp [h3.len]
  | [], _ :: _, h => h.elim
  | _ :: _, [], h => h.elim
theorem CellsR.get {R : Leaf → Value → Prop} : ∀ {ls : List Leaf} {us : List Value} {i : Nat} {u : Value}, CellsR R ls us → us[i]? = some u → ∃ l, ls[i]? = some l ∧ u.oneCell' = true ∧ R l u
  | [], [], _, _, _, h => by simp at h
  | l :: _, _ :: _, 0, u, ⟨⟨h1, h2⟩, _⟩, h => by simp at h; subst h; exact ⟨l, rfl, h1, h2⟩
  | _ :: _, _ :: _, i + 1, u, ⟨_, h3⟩, h => by simpa using h3.get (i := i) (by simpa using h)
  | [], _ :: _, _, _, h, _ => h.elim
  | _ :: _, [], _, _, h, _ => h.elim
theorem CellsR.of {R : Leaf → Value → Prop} : ∀ {ls : List Leaf} {us : List Value}, us.length = ls.length → (∀ (i : Nat) (l : Leaf) (u : Value), ls[i]? = some l → us[i]? = some u → u.oneCell' = true ∧ R l u) → CellsR R ls us
  | [], [], _, _ => trivial
  | l :: ls, u :: us, hl, h => ⟨h 0 l u rfl rfl, CellsR.of (by simpa using hl) fun i l' u' h1 h2 => h (i + 1) l' u' (by simpa using h1) (by simpa using h2)⟩
  | [], _ :: _, hl, _ => by simp at hl
  | _ :: _, [], hl, _ => by simp at hl
theorem CellsR.one {R : Leaf → Value → Prop} {ls : List Leaf} {us : List Value} (h : CellsR R ls us) : ∀ u ∈ us, u.oneCell' = true := fun u hu => by
  obtain ⟨i, hi, rfl⟩ := List.mem_iff_getElem.1 hu
  obtain ⟨_, _, h1, _⟩ := h.get (List.getElem?_eq_getElem hi)
  exact h1
theorem CellsR.rob {F : Fix} {ρ : Nat → Value} {own : List (Nat × Blk)} {w : World} : ∀ {ls : List Leaf} {us : List Value}, CellsR (fun l u => Rob F ρ own w fun ρ' w' => l.at ρ' w' u) ls us → Rob F ρ own w fun ρ' w' => CellsR (Leaf.at ρ' w') ls us
  | [], [], _ => fun _ _ _ _ => trivial
  | _ :: _, _ :: _, ⟨⟨h1, h2⟩, h3⟩ => fun ρ' w' k1 k2 => ⟨⟨h1, h2 ρ' w' k1 k2⟩, h3.rob ρ' w' k1 k2⟩
  | [], _ :: _, h => h.elim
  | _ :: _, [], h => h.elim
theorem CellsR.unrob {F : Fix} {ρ : Nat → Value} {own : List (Nat × Blk)} {w : World} : ∀ {ls : List Leaf} {us : List Value}, Rob F ρ own w (fun ρ' w' => CellsR (Leaf.at ρ' w') ls us) → CellsR (fun l u => Rob F ρ own w fun ρ' w' => l.at ρ' w' u) ls us
  | [], [], _ => trivial
  | _ :: _, _ :: _, h => ⟨⟨h.now.1.1, fun ρ' w' k1 k2 => (h ρ' w' k1 k2).1.2⟩, CellsR.unrob fun ρ' w' k1 k2 => (h ρ' w' k1 k2).2⟩
  | [], _ :: _, h => h.now.elim
  | _ :: _, [], h => h.now.elim
theorem Blk.At.mono {w w' : World} {R R' : Leaf → Value → Prop} {v : Value} {k : Blk} (h : k.At w R v) (hw : ∀ g, vblk v = some g → w'.heap[g]? = w.heap[g]?) (hR : ∀ l u, R l u → R' l u) : k.At w' R' v := by
  cases k with
  | st ls =>
    obtain ⟨g, c, e, rfl, h1, h2, h3⟩ := h
    exact ⟨g, c, e, rfl, by rw [hw g rfl]; exact h1, h2.mono hR, h3⟩
  | rw k e u α mk Z n =>
    rcases h with h | ⟨g, cap, c, rfl, h1, h2, h3, h4, h5, h6⟩
    · exact .inl h
    · refine .inr ⟨g, cap, c, rfl, by rw [hw g rfl]; exact h1, h2, h3, h4, h5, fun i j hi hj => ?_⟩
      obtain ⟨pp, x, q1, q2, q3⟩ := h6 i j hi hj
      exact ⟨pp, x, q1, q2, hR _ _ q3⟩
theorem Blk.At.mono' {w : World} {R R' : Leaf → Value → Prop} {v : Value} {k n : Nat} {e : TypeId} {u : Bool} {α : Type} {mk : α → Nat → Leaf} {Z : Nat → α} (h : (Blk.rw k e u α mk Z n).At w R v) (hR : ∀ i j x, i < n → j < k → pureL (mk (Z i) j) = true → R (mk (Z i) j) x → R' (mk (Z i) j) x) : (Blk.rw k e u α mk Z n).At w R' v := by
  rcases h with h | ⟨g, cap, c, rfl, h1, h2, h3, h4, h5, h6⟩
  · exact .inl h
  · refine .inr ⟨g, cap, c, rfl, h1, h2, h3, h4, h5, fun i j hi hj => ?_⟩
    obtain ⟨pp, x, q1, q2, q3⟩ := h6 i j hi hj
    exact ⟨pp, x, q1, q2, hR i j x hi hj pp q3⟩
theorem Blk.At.lt {w : World} {R : Leaf → Value → Prop} {v : Value} {k : Blk} (h : k.At w R v) {g : Nat} (hg : vblk v = some g) : g < w.heap.size := by
  cases k with
  | st ls =>
    obtain ⟨g', c, e, rfl, h1, h2, h3⟩ := h
    cases hg
    exact (Array.getElem?_eq_some_iff.1 h1).1
  | rw k e u α mk Z n =>
    rcases h with ⟨rfl, _⟩ | ⟨g', cap, c, rfl, h1, _⟩
    · cases hg
    · cases hg
      exact (Array.getElem?_eq_some_iff.1 h1).1

section
variable {F : Fix} {ρ : Nat → Value} {st : St} {a : Act} {w : World}
theorem SatE.size (h : SatE F ρ st a w) : F.w0.heap.size ≤ w.heap.size := h.below.size
theorem SatE.ext {w' : World} (h : SatE F ρ st a w) (hb : Below w.heap.size w w') : SatE F ρ st a w' where
  dfr := h.dfr
  nt := h.nt
  tm t := (h.tm t).ext (.of_below hb)
  own b k hk := (h.own b k hk).mono (fun g hg => hb.block g ((h.own b k hk).lt hg)) fun _ _ hr => hr.ext (.of_below hb)
  inj := h.inj
  base := h.base
  below := h.below.trans (hb.mono h.size)
  gl := h.gl.ext (.of_below hb)
  dis := h.dis
  oo k hk := ⟨Nat.lt_of_lt_of_le (h.oo k hk).1 hb.size, fun c e f hc => (h.oo k hk).2 c e f (by rw [← hb.block k (h.oo k hk).1]; exact hc)⟩
theorem SatE.mt_lt (h : SatE F ρ st a w) {k : Nat} (hm : Mt F ρ st.own k) : k < w.heap.size := by
  rcases hm with ho | ⟨b, hs, hk⟩
  · exact (h.oo k ho).1
  · obtain ⟨q, hq⟩ := Option.isSome_iff_exists.1 hs
    exact (h.own b q hq).lt hk
theorem SatE.drew (h : SatE F ρ st a w) : SatE F ρ st a w.drew := h.ext (Below.refl _ _).drew

def St.put (st : St) (d : Nat) (v : AV) : St := { st with tm := (d, v) :: st.tm }
theorem getD_put (a : Act) (d t : Nat) (v : Value) (hd : d < a.tmps.size) : (a.put (some d) v).tmps.getD t undef = if d = t then v else a.tmps.getD t undef := by
  simp only [Act.put, Array.getD_eq_getD_getElem?, Array.getElem?_setIfInBounds]
  by_cases h : d = t
  · subst h; simp [hd]
  · simp [h]
theorem SatE.put (h : SatE F ρ st a w) {d : Nat} (hd : d < F.nt) {v : Value} {av : AV} (hv : Rob F ρ st.own w fun ρ' w' => av.at ρ' w' v) : SatE F ρ (st.put d av) (a.put (some d) v) w where
  dfr := h.dfr
  nt := by simpa [Act.put] using h.nt
  tm t := fun ρ' w' h1 h2 => by
    rw [getD_put _ _ _ _ (by rw [h.nt]; exact hd)]
    show (gt ((d, av) :: st.tm) t).at ρ' w' _
    rw [gt_cons]
    split
    · exact hv ρ' w' h1 h2
    · exact h.tm t ρ' w' h1 h2
  own := h.own
  inj := h.inj
  base := h.base
  dis := h.dis
  below := h.below
  gl := h.gl
  oo := h.oo

def updρ (ρ : Nat → Value) (b : Nat) (v : Value) : Nat → Value := fun i => if i = b then v else ρ i
theorem updρ_at (ρ : Nat → Value) (b : Nat) (v : Value) : updρ ρ b v b = v := if_pos rfl
theorem updρ_ne (ρ : Nat → Value) {b i : Nat} (v : Value) (h : i ≠ b) : updρ ρ b v i = ρ i := if_neg h
theorem some_new {own : List (Nat × Blk)} {b b' : Nat} {k : Blk} (h : (og ((b, k) :: own) b').isSome = true) : b' = b ∨ (b' ≠ b ∧ (og own b').isSome = true) := by
  rw [og_cons] at h
  by_cases hb : b = b'
  · exact .inl hb.symm
  · rw [if_neg hb] at h
    exact .inr ⟨fun x => hb x.symm, h⟩
theorem agr_new {own : List (Nat × Blk)} {b : Nat} {k : Blk} {v : Value} {ρ' : Nat → Value} (hb : og own b = none) (h : Agr ((b, k) :: own) (updρ ρ b v) ρ') : Agr own ρ ρ' := fun i hi => by
  have hne : i ≠ b := fun x => by rw [x, hb] at hi; cases hi
  rw [h i (by rw [og_cons, if_neg (fun x => hne x.symm)]; exact hi), updρ_ne _ _ hne]
theorem Rob.new {own : List (Nat × Blk)} {b : Nat} {k : Blk} {v : Value} {w1 : World} {R : (Nat → Value) → World → Prop} (h : Rob F ρ own w R) (hb : og own b = none)
    (hw : Below w.heap.size w w1) (hv : ∀ g, vblk v = some g → w.heap.size ≤ g) : Rob F (updρ ρ b v) ((b, k) :: own) w1 R := fun ρ' w' h1 h2 => by
  refine h ρ' w' (agr_new hb h1) ⟨Nat.le_trans hw.size h2.size, fun i hi hm => ?_⟩
  rw [h2.keep i (Nat.lt_of_lt_of_le hi hw.size) ?_, hw.block i hi]
  rintro (ho | ⟨b', hs, hk⟩)
  · exact hm (.inl ho)
  · rcases some_new hs with rfl | ⟨hne, hs'⟩
    · rw [updρ_at] at hk
      have := hv _ hk
      omega
    · rw [updρ_ne _ _ hne] at hk
      exact hm (.inr ⟨b', hs', hk⟩)
theorem SatE.new (h : SatE F ρ st a w) {b : Nat} {k : Blk} {v : Value} {w1 : World} (hb : og st.own b = none) (hw : Below w.heap.size w w1) (hv : ∀ g, vblk v = some g → w.heap.size ≤ g)
    (hk : k.At w1 (fun l u => Rob F (updρ ρ b v) ((b, k) :: st.own) w1 fun ρ' w' => l.at ρ' w' u) v) (nx : Nat) : SatE F (updρ ρ b v) { tm := st.tm, own := (b, k) :: st.own, nx := nx } a w1 where
  dfr := h.dfr
  nt := h.nt
  tm t := (h.tm t).new hb hw hv
  own b' k' hk' := by
    rw [og_cons] at hk'
    by_cases hbb : b = b'
    · subst hbb
      rw [if_pos rfl] at hk'
      cases hk'
      rw [updρ_at]
      exact hk
    · rw [if_neg hbb] at hk'
      rw [updρ_ne _ _ (fun x => hbb x.symm)]
      exact (h.own b' k' hk').mono (fun g hg => hw.block g ((h.own b' k' hk').lt hg)) fun _ _ hr => hr.new hb hw hv
  inj b1 b2 g h1 h2 g1 g2 := by
    have old : ∀ b' g, (og st.own b').isSome = true → vblk (ρ b') = some g → g < w.heap.size := fun b' g hs hg => by
      obtain ⟨k', hk'⟩ := Option.isSome_iff_exists.1 hs
      exact (h.own b' k' hk').lt hg
    rcases some_new h1 with rfl | ⟨n1, s1⟩ <;> rcases some_new h2 with rfl | ⟨n2, s2⟩
    · rfl
    · rw [updρ_at] at g1
      rw [updρ_ne _ _ n2] at g2
      have := hv _ g1
      have := old _ _ s2 g2
      omega
    · rw [updρ_at] at g2
      rw [updρ_ne _ _ n1] at g1
      have := hv _ g2
      have := old _ _ s1 g1
      omega
    · rw [updρ_ne _ _ n1] at g1
      rw [updρ_ne _ _ n2] at g2
      exact h.inj _ _ _ s1 s2 g1 g2
  base b' g hs hg := by
    rcases some_new hs with rfl | ⟨n1, s1⟩
    · rw [updρ_at] at hg
      exact Nat.le_trans h.size (hv _ hg)
    · rw [updρ_ne _ _ n1] at hg
      exact h.base _ _ s1 hg
  below := h.below.trans (hw.mono h.size)
  gl := h.gl.new hb hw hv
  dis b' g hs hg ho := by
    rcases some_new hs with rfl | ⟨n1, s1⟩
    · rw [updρ_at] at hg
      have := hv _ hg
      have := (h.oo g ho).1
      omega
    · rw [updρ_ne _ _ n1] at hg
      exact h.dis _ _ s1 hg ho
  oo k hk := ⟨Nat.lt_of_lt_of_le (h.oo k hk).1 hw.size, fun c e f hc => (h.oo k hk).2 c e f (by rw [← hw.block k (h.oo k hk).1]; exact hc)⟩
theorem some_oset {own : List (Nat × Blk)} {b i : Nat} {k : Blk} : (og (oset own b k) i).isSome = (og own i).isSome := by
  rw [og_oset]
  split
  · next h => subst h; simp
  · rfl
theorem mt_oset {own : List (Nat × Blk)} {b : Nat} {k : Blk} {i : Nat} : Mt F ρ (oset own b k) i ↔ Mt F ρ own i := by
  unfold Mt
  simp only [some_oset]
theorem Rob.oset {own : List (Nat × Blk)} {b g : Nat} {k : Blk} {w1 : World} {R : (Nat → Value) → World → Prop} (h : Rob F ρ own w R) (hs : (og own b).isSome = true) (hg : vblk (ρ b) = some g)
    (hsz : w1.heap.size = w.heap.size) (hw : ∀ i, i ≠ g → w1.heap[i]? = w.heap[i]?) : Rob F ρ (oset own b k) w1 R := fun ρ' w' h1 h2 => by
  refine h ρ' w' (fun i hi => h1 i (by rw [some_oset]; exact hi)) ⟨by have := h2.size; omega, fun i hi hm => ?_⟩
  rw [h2.keep i (by omega) fun x => hm (mt_oset.1 x), hw i fun x => hm (.inr ⟨b, hs, by rw [x]; exact hg⟩)]
theorem SatE.write (h : SatE F ρ st a w) {b g : Nat} {k : Blk} {w1 : World} (hs : (og st.own b).isSome = true) (hg : vblk (ρ b) = some g) (hsz : w1.heap.size = w.heap.size) (hw : ∀ i, i ≠ g → w1.heap[i]? = w.heap[i]?)
    (hos : w1.os = w.os) (hta : w1.tape = w.tape) (hou : w1.output = w.output)
    (hk : k.At w1 (fun l u => Rob F ρ (oset st.own b k) w1 fun ρ' w' => l.at ρ' w' u) (ρ b)) : SatE F ρ { st with own := oset st.own b k } a w1 where
  dfr := h.dfr
  nt := h.nt
  tm t := (h.tm t).oset hs hg hsz hw
  own b' k' hk' := by
    change og (oset st.own b k) b' = some k' at hk'
    rw [og_oset] at hk'
    by_cases hbb : b' = b
    · subst hbb
      rw [if_pos rfl] at hk'
      obtain ⟨k0, hk0⟩ := Option.isSome_iff_exists.1 hs
      rw [hk0] at hk'
      cases hk'
      exact hk
    · rw [if_neg hbb] at hk'
      refine (h.own b' k' hk').mono (fun g' hg' => hw g' fun x => hbb ?_) fun _ _ hr => hr.oset hs hg hsz hw
      exact h.inj b' b g (by rw [hk']; rfl) hs (by rw [← x]; exact hg') hg
  inj b1 b2 g' h1 h2 := h.inj b1 b2 g' (by rw [← some_oset (b := b) (k := k)]; exact h1) (by rw [← some_oset (b := b) (k := k)]; exact h2)
  base b' g' h1 := h.base b' g' (by rw [← some_oset (b := b) (k := k)]; exact h1)
  below := h.below.trans ⟨hos, hta, hou, by omega, fun i hi => hw i fun x => by have := h.base b g hs hg; omega⟩
  gl := h.gl.oset hs hg hsz hw
  dis b' g' h1 := h.dis b' g' (by rw [← some_oset (b := b) (k := k)]; exact h1)
  oo i hi := ⟨by rw [hsz]; exact (h.oo i hi).1, fun c e f hc => (h.oo i hi).2 c e f (by rw [← hw i fun x => h.dis b g hs hg (x ▸ hi)]; exact hc)⟩
end
end Go.VG

/- States in letters: the program's types as they are reckoned; what an operation makes, and how the state takes it. -/
namespace Go.VG
open Go Go.RowKit

inductive TyK where
  | int (k : IntKind) | bool | slice (e : TypeId) | ptr (e : TypeId) | arr (n : Nat) (e : TypeId) | struct (fs : List (Nat × TypeId)) | other
structure TyD where
  k : TyK
  size : Nat
  bytes : Nat
  zero : List Value
def kOf : TypeDesc → TyK
  | .int k => .int k
  | .bool => .bool
  | .slice e => .slice e
  | .pointer e => .ptr e
  | .array n e => .arr n e
  | .struct fs => .struct (fs.toList.map fun f => (f.offset, f.type))
  | _ => .other
def tyOf (P : Program) (t : TypeId) : Option TyD :=
  match P.info? t, P.underlying t with
  | some i, some u => match i.zero with
    | some z => some ⟨kOf u, i.size, i.bytes, z.cells.toList⟩
    | none => none
  | _, _ => none
def TysOk (P : Program) : List (TypeId × TyD) → Prop
  | [] => True
  | (t, d) :: l => tyOf P t = some d ∧ TysOk P l
def tg : List (TypeId × TyD) → TypeId → Option TyD
  | [], _ => none
  | (k, a) :: l, t => bif Nat.beq k t then some a else tg l t
theorem tysOk_get {P : Program} : ∀ {l : List (TypeId × TyD)} {t : TypeId} {d : TyD}, TysOk P l → tg l t = some d → tyOf P t = some d
  | [], _, _, _, h => by cases h
  | (k, a) :: l, t, d, ⟨h1, h2⟩, h => by
    rw [tg] at h
    cases hb : Nat.beq k t with
    | true =>
      rw [hb] at h
      cases h
      rw [← Nat.eq_of_beq_eq_true hb]
      exact h1
    | false =>
      rw [hb] at h
      exact tysOk_get h2 h
theorem tyOf_spec {P : Program} {t : TypeId} {d : TyD} (h : tyOf P t = some d) : ∃ i u z, P.info? t = some i ∧ P.underlying t = some u ∧ i.zero = some z ∧ d = ⟨kOf u, i.size, i.bytes, z.cells.toList⟩ := by
  unfold tyOf at h
  split at h
  · rename_i i u h1 h2
    split at h
    · rename_i z h3
      cases h
      exact ⟨i, u, z, h1, h2, h3, rfl⟩
    · cases h
  · cases h
def TyK.agg : TyK → Bool
  | .arr _ _ => true
  | .struct _ => true
  | _ => false
theorem run_isAgg {P : Program} {t : TypeId} {d : TyD} (h : tyOf P t = some d) (w : World) : (isAgg t).run P w = .ok d.k.agg w := by
  obtain ⟨i, u, z, h1, h2, h3, rfl⟩ := tyOf_spec h
  unfold isAgg
  simp only [Sem.run_bind, run_underlying h2, Result.andThen_ok]
  cases u <;> rfl
theorem run_sizeOf {P : Program} {t : TypeId} {d : TyD} (h : tyOf P t = some d) (w : World) : (sizeOf t).run P w = .ok d.size w := by
  obtain ⟨i, u, z, h1, h2, h3, rfl⟩ := tyOf_spec h
  simp [sizeOf, typeInfo, h1]
theorem run_zero {P : Program} {t : TypeId} {d : TyD} (h : tyOf P t = some d) (w : World) : ∃ z, (zeroValue t).run P w = .ok z w ∧ z.cells.toList = d.zero := by
  obtain ⟨i, u, z, h1, h2, h3, rfl⟩ := tyOf_spec h
  exact ⟨z, by simp [zeroValue, typeInfo, h1, h3], rfl⟩
theorem run_loadVar {P : Program} {t : TypeId} {d : TyD} (h : tyOf P t = some d) (g off : Nat) (cs : List Value) (w : World) (hc : ∀ j u, cs[j]? = some u → w.cell? ⟨g, off + j, none⟩ = some u) (hl : cs.length = d.size) (h1 : d.k.agg = false → d.size = 1) :
    (loadVar t ⟨g, off, none⟩).run P w = .ok (if d.k.agg then .agg cs.toArray else cs.headD undef) w := by
  have hadd : ∀ j, (⟨g, off, none⟩ : Addr).add j = ⟨g, off + j, none⟩ := fun j => by unfold Addr.add; split <;> simp_all
  unfold loadVar
  simp only [Sem.run_bind, run_isAgg h, Result.andThen_ok, Sem.run_ite]
  cases ha : d.k.agg with
  | true =>
    simp only [if_true]
    have := run_loadCells_list (P := P) w ⟨g, off, none⟩ cs fun j u hu => by rw [hadd]; exact hc j u hu
    rw [hl] at this
    simp [run_sizeOf h, this]
  | false =>
    have h1 := h1 ha
    rw [h1] at hl
    match cs, hl with
    | [u], _ =>
      have := hc 0 u rfl
      rw [Nat.add_zero] at this
      simp [this]
theorem run_storeVar {P : Program} {t : TypeId} {d : TyD} (h : tyOf P t = some d) (g off : Nat) (v : Value) (w : World) (e : TypeId) (cur : Array Value) (hg : w.heap[g]? = some (.cells cur e (0, 0))) (hs : v.cells.size = d.size) (hfit : off + d.size ≤ cur.size) (h1 : ∀ u ∈ v.cells.toList, u.oneCell' = true) :
    (storeVar t ⟨g, off, none⟩ v).run P w = .ok () (w.setRow g (cur.toList.take off ++ v.cells.toList ++ cur.toList.drop (off + d.size)).toArray) := by
  unfold storeVar
  have hst := run_storeCells_at P g off e v.cells.toList 0 cur w hg (by simpa [hs] using hfit) h1
  simp only [Nat.add_zero, Array.length_toList, hs] at hst
  simp [run_sizeOf h, hs, hst]

theorem blt_lt {a b : Nat} (h : Nat.blt a b = true) : a < b := by rwa [Nat.blt_eq] at h
structure Ctx where
  P : Program
  G : World → Prop
  tys : List (TypeId × TyD)
structure Res where
  av : AV
  own : Option (Nat × Blk)
def ofC (u : Value) : AV := bif u.oneCell' then .v (.c (.x u)) else .any
def ev (st : St) : Operand → AV
  | .tmp t => gt st.tm t
  | .const u => ofC u
  | .global g => .v (.c (.x (.pointer (some ⟨g, 0, none⟩))))
  | .func f => .v (.c (.x (.func (.func f) #[] #[])))
def Made (F : Fix) (ρ : Nat → Value) (st : St) (r : Res) (v : Value) (w w' : World) : Prop :=
  Below w.heap.size w w' ∧ match r.own with
  | none => Rob F ρ st.own w' fun ρ' w'' => r.av.at ρ' w'' v
  | some (b, k) => og st.own b = none ∧ ∃ u, (∀ g, vblk u = some g → w.heap.size ≤ g) ∧ (Rob F (updρ ρ b u) ((b, k) :: st.own) w' fun ρ' w'' => r.av.at ρ' w'' v) ∧ k.At w' (fun l x => Rob F (updρ ρ b u) ((b, k) :: st.own) w' fun ρ' w'' => l.at ρ' w'' x) u
def St.add (st : St) (d : Option Nat) (r : Res) : St :=
  { tm := match d with
      | some d => (d, r.av) :: st.tm
      | none => st.tm
    own := match r.own with
      | some p => p :: st.own
      | none => st.own
    nx := match r.own with
      | some p => p.1 + 1
      | none => st.nx }
def dstOk (nt : Nat) : Option Nat → Bool
  | some d => Nat.blt d nt
  | none => true
section
variable {F : Fix} {ρ : Nat → Value} {st : St} {a : Act} {w w' : World}
theorem SatE.add (h : SatE F ρ st a w) {r : Res} {v : Value} (hm : Made F ρ st r v w w') {d : Option Nat} (hd : dstOk F.nt d = true) : Sat F (st.add d r) (a.put d v) w' := by
  obtain ⟨av, own⟩ := r
  obtain ⟨hb, hm⟩ := hm
  cases own with
  | none =>
    have h1 := h.ext hb
    cases d with
    | none => exact ⟨ρ, h1⟩
    | some d => exact ⟨ρ, h1.put (blt_lt hd) hm⟩
  | some p =>
    obtain ⟨b, k⟩ := p
    obtain ⟨h0, u, h1, h2, h3⟩ := hm
    have h4 := h.new h0 hb h1 h3 (b + 1)
    cases d with
    | none => exact ⟨_, h4⟩
    | some d => exact ⟨_, h4.put (blt_lt hd) h2⟩
theorem SatE.ev (h : SatE F ρ st a w) (x : Operand) : Rob F ρ st.own w fun ρ' w' => (ev st x).at ρ' w' (a.eval x) := by
  cases x with
  | tmp t => exact h.tm t
  | const u =>
    intro ρ' w' _ _
    show (ofC u).at ρ' w' u
    unfold ofC
    cases ho : u.oneCell' with
    | true => exact ⟨ho, rfl⟩
    | false => trivial
  | global g => exact fun _ _ _ _ => ⟨rfl, rfl⟩
  | func f => exact fun _ _ _ _ => ⟨rfl, rfl⟩
end

def opWp (P : Program) (ops : Array Oper) (Q : Exit → Act → World → Prop) (o : Oper) (K : Act → World → Prop) (a : Act) (w : World) : Prop :=
  if Region.wanted o (yielded ops a.tmps) then o.wp P a w K Q ∨ (o.asks P a w ∧ LetsOut Q) else K (a.put o.dst undef) w
theorem opWp_mono {P : Program} {ops : Array Oper} {Q : Exit → Act → World → Prop} {o : Oper} {K K' : Act → World → Prop} {a : Act} {w : World} (h : ∀ a w, K a w → K' a w) (hh : opWp P ops Q o K a w) : opWp P ops Q o K' a w := by
  unfold opWp at *
  split
  · rename_i hw
    rw [if_pos hw] at hh
    exact hh.imp (Oper.wp_mono h) id
  · rename_i hw
    rw [if_neg hw] at hh
    exact h _ _ hh
def PureOp (C : Ctx) (ops : Array Oper) (st : St) (o : Oper) (r : Res) : Prop :=
  ∀ (F : Fix) (ρ : Nat → Value) (a : Act) (w : World) (Q : Exit → Act → World → Prop), F.G = C.G → SatE F ρ st a w → opWp C.P ops Q o (fun a' w' => ∃ v, a' = a.put o.dst v ∧ Made F ρ st r v w w') a w
theorem pure_value {C : Ctx} {ops : Array Oper} {st : St} {o : Oper} {r : Res} (hg : o.guard = none)
    (h : ∀ (F : Fix) (ρ : Nat → Value) (a : Act) (w : World), F.G = C.G → SatE F ρ st a w → ∃ v w', (execOp a.eval o).run C.P w = .ok (.value v) w' ∧ Made F ρ st r v w w') : PureOp C ops st o r := by
  intro F ρ a w Q hG hs
  obtain ⟨v, w', h1, h2⟩ := h F ρ a w hG hs
  unfold opWp
  rw [if_pos (by simp [Region.wanted, hg])]
  left
  unfold Oper.wp
  rw [h1]
  exact ⟨v, rfl, h2⟩
theorem made_plain {F : Fix} {ρ : Nat → Value} {st : St} {av : AV} {v : Value} {w : World} (h : Rob F ρ st.own w fun ρ' w' => av.at ρ' w' v) : Made F ρ st ⟨av, none⟩ v w w := ⟨Below.refl _ _, h⟩
end Go.VG

/- States in letters: the operations that leave what was there as it was, one by one. -/
namespace Go.VG
open Go Go.RowKit

structure Ob (A B : Prop) : Prop where
  a : A
  b : B
structure Cases (t : Bool) (K : Bool → Prop) : Prop where
  tt : t = true → K true
  ff : t = false → K false
structure Idx (i : Int) (n : Nat) (K : Nat → Prop) : Prop where
  w : ∃ m : Nat, i = m ∧ m < n ∧ K m
theorem Cases.get {t : Bool} {K : Bool → Prop} (h : Cases t K) : K t := by
  cases t with
  | true => exact h.tt rfl
  | false => exact h.ff rfl

def InK : IntKind → Int → Prop
  | .i64, n => -9223372036854775808 ≤ n ∧ n ≤ 9223372036854775807
  | .u64, n => 0 ≤ n ∧ n ≤ 18446744073709551615
  | .u32, n => 0 ≤ n ∧ n ≤ 4294967295
  | .i32, n => -2147483648 ≤ n ∧ n ≤ 2147483647
  | .u16, n => 0 ≤ n ∧ n ≤ 65535
  | .u8, n => 0 ≤ n ∧ n ≤ 255
  | _, _ => False
theorem wrap_in {k : IntKind} {n : Int} (h : InK k n) : k.wrap n = n := by
  cases k <;> simp only [InK] at h
  · rw [IntKind.wrap_i32]; omega
  · rw [IntKind.wrap_i64]; omega
  · rw [IntKind.wrap_u8]; omega
  · rw [IntKind.wrap_u16]; omega
  · rw [IntKind.wrap_u32]; omega
  · rw [IntKind.wrap_u64]; omega
structure WrOb (k : IntKind) (x : Int) (K : Int → Prop) : Prop where
  w : ∃ z, k.wrap x = z ∧ K z
def kix : IntKind → Nat
  | .i8 => 0 | .i16 => 1 | .i32 => 2 | .i64 => 3 | .u8 => 4 | .u16 => 5 | .u32 => 6 | .u64 => 7
def keq (k k' : IntKind) : Bool := Nat.beq (kix k) (kix k')
theorem keq_eq {k k' : IntKind} (h : keq k k' = true) : k = k' := by
  have := Nat.eq_of_beq_eq_true h
  cases k <;> cases k' <;> first | rfl | (simp [kix] at this)

def int (k : IntKind) (n : Int) : AV := .v (.c (.x (.int k n)))
def bool (t : Bool) : AV := .v (.c (.x (.bool t)))
def arith (k : IntKind) (op : BinOp) (a b : Int) (K : AV → Prop) : Prop :=
  match op with
  | .add => WrOb k (a + b) fun z => K (int k z)
  | .sub => WrOb k (a - b) fun z => K (int k z)
  | .mul => WrOb k (a * b) fun z => K (int k z)
  | .quo => Ob (b ≠ 0 ∧ InK k (a.tdiv b)) (K (int k (a.tdiv b)))
  | .rem => Ob (b ≠ 0) (K (int k (a.tmod b)))
  | .eql => K (bool (decide (a = b)))
  | .neq => K (bool (!decide (a = b)))
  | .lss => K (bool (decide (a < b)))
  | .leq => K (bool (decide (a ≤ b)))
  | .gtr => K (bool (decide (b < a)))
  | .geq => K (bool (decide (b ≤ a)))
  | _ => False
theorem int_beq (a b : Int) : (a == b) = decide (a = b) := by rw [Bool.eq_iff_iff]; simp
theorem run_arith {k : IntKind} {op : BinOp} {a b : Int} {K : AV → Prop} (h : arith k op a b K) :
    ∃ u, K (.v (.c (.x u))) ∧ u.oneCell' = true ∧ ∀ (P : Program) (t : TypeId) (x y : Operand) (w : World), (do eqGuard op t x y (.int k a) (.int k b); binOp op t (.int k a) (.int k b)).run P w = .ok u w := by
  have heq : ∀ (P : Program) (t : TypeId) (x y : Operand) (w : World), (eqGuard op t x y (.int k a) (.int k b)).run P w = .ok () w := fun P t x y w => by
    unfold eqGuard
    split <;> rfl
  cases op <;> simp only [arith] at h
  all_goals first | exact h.elim | skip
  · obtain ⟨z, e, hk⟩ := h.w; exact ⟨_, hk, rfl, fun P t x y w => by simp [heq, binOp, Op.intArith, e]⟩
  · obtain ⟨z, e, hk⟩ := h.w; exact ⟨_, hk, rfl, fun P t x y w => by simp [heq, binOp, Op.intArith, e]⟩
  · obtain ⟨z, e, hk⟩ := h.w; exact ⟨_, hk, rfl, fun P t x y w => by simp [heq, binOp, Op.intArith, e]⟩
  · exact ⟨_, h.b, rfl, fun P t x y w => by simp [heq, binOp, Op.intDiv, h.a.1, wrap_in h.a.2]⟩
  · exact ⟨_, h.b, rfl, fun P t x y w => by simp [heq, binOp, Op.intDiv, h.a]⟩
  · exact ⟨_, h, rfl, fun P t x y w => by simp [heq, binOp, Op.intCmp, int_beq]⟩
  · exact ⟨_, h, rfl, fun P t x y w => by simp [heq, binOp, Op.intCmp, bne, int_beq]⟩
  · exact ⟨_, h, rfl, fun P t x y w => by simp [heq, binOp, Op.intCmp]⟩
  · exact ⟨_, h, rfl, fun P t x y w => by simp [heq, binOp, Op.intCmp]⟩
  · exact ⟨_, h, rfl, fun P t x y w => by simp [heq, binOp, Op.intCmp]⟩
  · exact ⟨_, h, rfl, fun P t x y w => by simp [heq, binOp, Op.intCmp]⟩
def guardB (b : Bool) (A : Prop) : Prop := bif b then A else False
theorem guardB_out {b : Bool} {A : Prop} (h : guardB b A) : b = true ∧ A := by
  cases b with
  | true => exact ⟨rfl, h⟩
  | false => exact h.elim
def bitz (k : IntKind) (op : BinOp) (a b : Int) : Int :=
  match op with
  | .and => k.wrap ((BitVec.ofInt k.bits a &&& BitVec.ofInt k.bits b).toNat : Nat)
  | .or => k.wrap ((BitVec.ofInt k.bits a ||| BitVec.ofInt k.bits b).toNat : Nat)
  | _ => k.wrap ((BitVec.ofInt k.bits a ^^^ BitVec.ofInt k.bits b).toNat : Nat)
structure BitOb (k : IntKind) (op : BinOp) (a b : Int) (K : Int → Prop) : Prop where
  w : ∃ z, bitz k op a b = z ∧ K z
theorem BitOb.mk' {k : IntKind} {op : BinOp} {a b : Int} {K : Int → Prop} (z : Int) (h : bitz k op a b = z) (hk : K z) : BitOb k op a b K := ⟨z, h, hk⟩
theorem bitz_or {k : IntKind} (hk : k = .u32 ∨ k = .u64) {a b : Int} {A s n : Nat} (ha : a = ((A * 2 ^ s : Nat) : Int)) (hb : b = n) (hn : n < 2 ^ s) (hl : A * 2 ^ s + n < 2 ^ k.bits) : bitz k .or a b = a + b := by
  subst ha hb
  have e : (BitVec.ofInt k.bits ((A * 2 ^ s : Nat) : Int) ||| BitVec.ofInt k.bits ((n : Nat) : Int)).toNat = A * 2 ^ s + n := by
    rw [BitVec.toNat_or, BitVec.ofInt_natCast, BitVec.ofInt_natCast, BitVec.toNat_ofNat, BitVec.toNat_ofNat, Nat.mod_eq_of_lt (by omega), Nat.mod_eq_of_lt (by omega)]
    have h := Nat.shiftLeft_add_eq_or_of_lt hn A
    rw [Nat.shiftLeft_eq] at h
    exact h.symm
  show k.wrap ((_ : Nat) : Int) = _
  rw [e]
  rcases hk with rfl | rfl
  · rw [IntKind.wrap_u32]
    have : (2 : Nat) ^ IntKind.u32.bits = 4294967296 := rfl
    omega
  · rw [IntKind.wrap_u64]
    have : (2 : Nat) ^ IntKind.u64.bits = 18446744073709551616 := rfl
    omega
def arith2 (k k' : IntKind) (op : BinOp) (a b : Int) (K : AV → Prop) : Prop :=
  match op with
  | .shr => bif Nat.beq b.toNat 32 && Nat.ble 32 k.bits then K (int k (a / 4294967296)) else Ob (0 ≤ b ∧ b.toNat ≤ k.bits) (K (int k (a / ((2 ^ b.toNat : Nat) : Int))))
  | .shl => bif Nat.beq b.toNat 32 && Nat.ble 32 k.bits then WrOb k (a * 4294967296) fun z => K (int k z) else Ob (0 ≤ b ∧ b.toNat ≤ k.bits) (WrOb k (a * ((2 ^ b.toNat : Nat) : Int)) fun z => K (int k z))
  | .and => guardB (keq k k') (BitOb k .and a b fun z => K (int k z))
  | .or => guardB (keq k k') (BitOb k .or a b fun z => K (int k z))
  | .xor => guardB (keq k k') (BitOb k .xor a b fun z => K (int k z))
  | _ => guardB (keq k k') (arith k op a b K)
theorem run_arith2 {k k' : IntKind} {op : BinOp} {a b : Int} {K : AV → Prop} (h : arith2 k k' op a b K) :
    ∃ u, K (.v (.c (.x u))) ∧ u.oneCell' = true ∧ ∀ (P : Program) (t : TypeId) (x y : Operand) (w : World), (do eqGuard op t x y (.int k a) (.int k' b); binOp op t (.int k a) (.int k' b)).run P w = .ok u w := by
  have old : guardB (keq k k') (arith k op a b K) → ∃ u, K (.v (.c (.x u))) ∧ u.oneCell' = true ∧ ∀ (P : Program) (t : TypeId) (x y : Operand) (w : World), (do eqGuard op t x y (.int k a) (.int k' b); binOp op t (.int k a) (.int k' b)).run P w = .ok u w := fun h => by
    obtain ⟨h1, h2⟩ := guardB_out h
    obtain rfl := keq_eq h1
    exact run_arith h2
  have e32 : b.toNat = 32 → ¬ b < 0 := fun h => by omega
  have bit : ∀ op', (op' = .and ∨ op' = .or ∨ op' = .xor) → guardB (keq k k') (BitOb k op' a b fun z => K (int k z)) → ∃ u, K (.v (.c (.x u))) ∧ u.oneCell' = true ∧ ∀ (P : Program) (t : TypeId) (x y : Operand) (w : World), (do eqGuard op' t x y (.int k a) (.int k' b); binOp op' t (.int k a) (.int k' b)).run P w = .ok u w := fun op' ho h => by
    obtain ⟨h1, h2⟩ := guardB_out h
    obtain rfl := keq_eq h1
    obtain ⟨z, e, hz⟩ := h2.w
    refine ⟨_, hz, rfl, fun P t x y w => ?_⟩
    rcases ho with rfl | rfl | rfl <;> (rw [← e]; simp [eqGuard, binOp, Op.intBits, bitz])
  cases op
  case and => exact bit _ (.inl rfl) h
  case or => exact bit _ (.inr (.inl rfl)) h
  case xor => exact bit _ (.inr (.inr rfl)) h
  case shr =>
    simp only [arith2] at h
    by_cases h32 : (Nat.beq b.toNat 32 && Nat.ble 32 k.bits) = true
    · rw [h32] at h
      rw [Bool.and_eq_true] at h32
      have hb := Nat.eq_of_beq_eq_true h32.1
      have hk := Nat.le_of_ble_eq_true h32.2
      refine ⟨_, h, rfl, fun P t x y w => ?_⟩
      have e2 : a.fdiv 4294967296 = a / 4294967296 := Int.fdiv_eq_ediv_of_nonneg _ (by omega)
      simp [eqGuard, binOp, Op.shift, e32 hb, hb, Nat.min_eq_left hk, e2]
    · rw [Bool.not_eq_true] at h32
      rw [h32] at h
      have hk : Ob (0 ≤ b ∧ b.toNat ≤ k.bits) (K (int k (a / ((2 ^ b.toNat : Nat) : Int)))) := h
      refine ⟨_, hk.b, rfl, fun P t x y w => ?_⟩
      have hn : ¬ b < 0 := by have := hk.a.1; omega
      have e2 : a.fdiv (2 ^ b.toNat) = a / 2 ^ b.toNat := Int.fdiv_eq_ediv_of_nonneg _ (Int.le_of_lt (Int.pow_pos (by omega)))
      simp [eqGuard, binOp, Op.shift, hn, Nat.min_eq_left hk.a.2, e2]
  case shl =>
    simp only [arith2] at h
    by_cases h32 : (Nat.beq b.toNat 32 && Nat.ble 32 k.bits) = true
    · rw [h32] at h
      rw [Bool.and_eq_true] at h32
      have hb := Nat.eq_of_beq_eq_true h32.1
      have hk := Nat.le_of_ble_eq_true h32.2
      have h' : WrOb k (a * 4294967296) fun z => K (int k z) := h
      obtain ⟨z, e, hz⟩ := h'.w
      refine ⟨_, hz, rfl, fun P t x y w => ?_⟩
      simp [eqGuard, binOp, Op.shift, e32 hb, hb, Nat.min_eq_left hk, e]
    · rw [Bool.not_eq_true] at h32
      rw [h32] at h
      have hk : Ob (0 ≤ b ∧ b.toNat ≤ k.bits) (WrOb k (a * ((2 ^ b.toNat : Nat) : Int)) fun z => K (int k z)) := h
      obtain ⟨z, e, hz⟩ := hk.b.w
      refine ⟨_, hz, rfl, fun P t x y w => ?_⟩
      have hn : ¬ b < 0 := by have := hk.a.1; omega
      have e' : k.wrap (a * 2 ^ b.toNat) = z := by rw [← e]; simp
      simp [eqGuard, binOp, Op.shift, hn, Nat.min_eq_left hk.a.2, e']
  all_goals exact old h
def logic (op : BinOp) (a b : Bool) (K : AV → Prop) : Prop :=
  match op with
  | .eql => K (bool (a == b))
  | .neq => K (bool (!(a == b)))
  | _ => False

def leaves : AV → Option (List Leaf)
  | .v (.c l) => some [l]
  | .v (.agg ls) => some ls
  | _ => none
def leafNou : Leaf → Bool
  | .any => false
  | .x u => nou u
  | _ => true
def vload (ag : Bool) (n : Nat) (ls : List Leaf) : AV := bif ag then .v (.agg (ls.take n)) else .v (.c (ls.headD .any))
def tab : Nat → (Nat → Leaf) → Nat → List Leaf
  | 0, _, _ => []
  | n + 1, f, k => f k :: tab n f (k + 1)
def one1 (d : TyD) : Bool := d.k.agg || Nat.beq d.size 1
def shiftZ (α : Type) (Z : Nat → α) (l : Nat) : Nat → α := fun i => Z (l + i)
structure SlOb (lo hi : Option AV) (n : Nat) (K : Nat → Nat → Prop) : Prop where
  w : ∃ l h : Nat, (lo = none ∧ l = 0 ∨ ∃ k, lo = some (int k l)) ∧ (hi = none ∧ h = n ∨ ∃ k, hi = some (int k h)) ∧ l ≤ h ∧ h ≤ n ∧ K l h
def asI : AV → Option Int
  | .v (.c (.x (.int _ b))) => some b
  | _ => none
def foldMM (mx : Bool) : Int → List AV → Option Int
  | a, [] => some a
  | a, v :: l => match asI v with
    | some b => foldMM mx (bif mx then (if a < b then b else a) else (if b < a then b else a)) l
    | none => none
def fillL (size : List (Nat × Nat)) : List Leaf → List (Nat × AV) → Option (List Leaf)
  | ls, [] => some ls
  | ls, (i, a) :: rest =>
    match size[i]?, leaves a with
    | some (off, sz), some l => bif Nat.beq l.length sz && Nat.ble (off + sz) ls.length then fillL size (ls.take off ++ l ++ ls.drop (off + sz)) rest else none
    | _, _ => none
def sizesOf (tys : List (TypeId × TyD)) : List (Nat × TypeId) → Option (List (Nat × Nat))
  | [] => some []
  | (off, t) :: l =>
    match tg tys t, sizesOf tys l with
    | some d, some r => some ((off, d.size) :: r)
    | _, _ => none
def capsOf : List AV → Option (List Nat)
  | [] => some []
  | .v (.c (.loc b 0)) :: l => (capsOf l).map (b :: ·)
  | _ => none
def getL (ls : List Leaf) (i : Nat) : Leaf := match ls[i]? with
  | some l => l
  | none => .any
def zerosL (z : List Value) : Nat → List Leaf
  | 0 => []
  | n + 1 => z.map .x ++ zerosL z n
def ArgsR (R : AV → Value → Prop) : List AV → List Value → Prop
  | [], [] => True
  | l :: ls, u :: us => R l u ∧ ArgsR R ls us
  | _, _ => False
def CallOk (P : Program) (f : FuncId) : Prop := ∃ fn, P.funcs[f]? = some fn ∧ (fn.name == "runtime.NumGoroutine") = false ∧ fn.body.isNone = false
structure CallP (C : Ctx) (st : St) (f : FuncId) (args : List AV) (K : Res → Prop) : Prop where
  ok : CallOk C.P f
  w : ∃ r, K r ∧ ∀ (F : Fix) (ρ : Nat → Value) (a : Act) (w : World) (vs : List Value), F.G = C.G → SatE F ρ st a w → (Rob F ρ st.own w fun ρ' w' => ArgsR (AV.at ρ' w') args vs) →
    Calls C.P f vs.toArray w fun e w' => ∃ v, e = .returned v ∧ Made F ρ st r v w w'
structure CallV (C : Ctx) (st : St) (φ : World → Value → Prop) (args : List AV) (K : Res → Prop) : Prop where
  w : ∃ r, K r ∧ ∀ (F : Fix) (ρ : Nat → Value) (a : Act) (w : World) (vs : List Value) (v : Value), F.G = C.G → SatE F ρ st a w → (Rob F ρ st.own w fun ρ' w' => ArgsR (AV.at ρ' w') args vs) → (Rob F ρ st.own w fun _ w' => φ w' v) →
    ∃ g caps, v = .func (.func g) #[] caps ∧ CallOk C.P g ∧ Calls C.P g (vs.toArray ++ caps) w fun e w' => ∃ v, e = .returned v ∧ Made F ρ st r v w w'
def ptrB : AV → Bool
  | .v (.c (.ptr _ _)) => true
  | _ => false
structure MkFn (C : Ctx) (g : FuncId) (caps : List AV) (K : Res → Prop) : Prop where
  w : ∃ φ : World → Value → Prop, (∀ (vs : List Value) (w : World), (∀ w', Ext (fun _ => False) w w' → C.G w') → (∀ ρ' w', Ext (fun _ => False) w w' → ArgsR (AV.at ρ' w') caps vs) → φ w (.func (.func g) #[] vs.toArray)) ∧ K ⟨.v (.c (.p φ)), none⟩
structure EqOb (C : Ctx) (op : BinOp) (t : TypeId) (ls ls' : List Leaf) (K : Bool → Prop) : Prop where
  w : ∃ b, K b ∧ ∀ (x y : Operand) (ρ : Nat → Value) (cs cs' : List Value) (w : World), CellsR (Leaf.at ρ w) ls cs → CellsR (Leaf.at ρ w) ls' cs' → (do eqGuard op t x y (.agg cs.toArray) (.agg cs'.toArray); binOp op t (.agg cs.toArray) (.agg cs'.toArray) : Sem Value).run C.P w = .ok (.bool b) w
structure MkRow (k : Nat) (z : List Value) (n : Int) (K : (α : Type) → (α → Nat → Leaf) → (Nat → α) → Nat → Prop) : Prop where
  w : ∃ (α : Type) (mk : α → Nat → Leaf) (Z : Nat → α) (m : Nat), n = m ∧ (∀ i j, i < m → j < k → mk (Z i) j = .x (z.getD j undef)) ∧ K α mk Z m

def vc1 (C : Ctx) (st : St) (op : Op) (K : Res → Prop) : Prop :=
  match op with
  | .move x => K ⟨ev st x, none⟩
  | .assign x => K ⟨ev st x, none⟩
  | .pick c a b => match ev st c with
    | .v (.c (.x (.bool t))) => Cases t fun tb => K ⟨bif tb then ev st a else ev st b, none⟩
    | _ => False
  | .alloc t => match tg C.tys t with
    | some d => guardB (d.zero.all nou && (og st.own st.nx).isNone && d.zero.all Value.oneCell') (K ⟨.v (.c (.loc st.nx 0)), some (st.nx, .st (d.zero.map .x))⟩)
    | none => False
  | .box _ x => match leaves (ev st x) with
    | some ls => guardB (ls.all leafNou && (og st.own st.nx).isNone) (K ⟨.v (.c (.loc st.nx 0)), some (st.nx, .st ls)⟩)
    | none => False
  | .load t x => match tg C.tys t with
    | none => False
    | some d => match ev st x with
      | .v (.c (.loc b o)) => match og st.own b with
        | some (.st ls) => guardB (Nat.ble (o + d.size) ls.length && one1 d) (K ⟨vload d.k.agg d.size (ls.drop o), none⟩)
        | _ => False
      | .v (.c (.ptr k f)) => guardB (Nat.ble d.size k && one1 d) (K ⟨vload d.k.agg d.size (tab d.size f 0), none⟩)
      | .v (.c (.rl b k i j)) => match og st.own b with
        | some (.rw k' _ _ _ mk Z n) => guardB (Nat.beq k k' && Nat.ble (j + d.size) k && one1 d) (Ob (i < n) (K ⟨vload d.k.agg d.size (tab d.size (fun q => mk (Z i) (j + q)) 0), none⟩))
        | _ => False
      | _ => False
  | .fieldAddr t x i => match tg C.tys t with
    | some ⟨.struct fs, _, _, _⟩ => match fs[i]? with
      | some (off, ft) => match tg C.tys ft with
        | some d => guardB (!Nat.beq d.size 0) (match ev st x with
          | .v (.c (.loc b o)) => match og st.own b with
            | some (.st _) => K ⟨.v (.c (.loc b (o + off))), none⟩
            | _ => False
          | .v (.c (.ptr k f)) => guardB (Nat.ble (off + d.size) k) (K ⟨.v (.c (.ptr d.size fun j => f (off + j))), none⟩)
          | .v (.c (.rl b k m j)) => match og st.own b with
            | some (.rw _ _ _ _ _ _ n) => Ob (m < n) (K ⟨.v (.c (.rl b k m (j + off))), none⟩)
            | _ => False
          | _ => False)
        | none => False
      | none => False
    | _ => False
  | .field t x i => match tg C.tys t with
    | some ⟨.struct fs, _, _, _⟩ => match fs[i]? with
      | some (off, ft) => match tg C.tys ft with
        | some d => match ev st x with
          | .v (.agg ls) => guardB (Nat.ble (off + d.size) ls.length && one1 d) (K ⟨vload d.k.agg d.size (ls.drop off), none⟩)
          | _ => False
        | none => False
      | none => False
    | _ => False
  | .indexAddr t x i => match tg C.tys t with
    | some ⟨.slice e, _, _, _⟩ => match tg C.tys e, ev st i with
      | some d, .v (.c (.x (.int _ n))) => match ev st x with
        | .v (.c (.sl k _ mk Z m)) => guardB (Nat.beq k d.size) (Idx n m fun j => K ⟨.v (.c (.ptr k fun q => mk (Z j) q)), none⟩)
        | .v (.c (.row b)) => match og st.own b with
          | some (.rw k _ _ _ _ _ m) => guardB (Nat.beq k d.size) (Idx n m fun j => K ⟨.v (.c (.rl b k j 0)), none⟩)
          | _ => False
        | .v (.c (.rs b k l m _)) => match og st.own b with
          | some (.rw k' _ _ _ _ _ _) => guardB (Nat.beq k d.size && Nat.beq k' k) (Idx n m fun j => K ⟨.v (.c (.rl b k (l + j) 0)), none⟩)
          | _ => False
        | _ => False
      | _, _ => False
    | some ⟨.arr m e, _, _, _⟩ => match tg C.tys e, ev st i with
      | some d, .v (.c (.x (.int _ n))) => match ev st x with
        | .v (.c (.loc b o)) => match og st.own b with
          | some (.st _) => Idx n m fun j => K ⟨.v (.c (.loc b (o + j * d.size))), none⟩
          | _ => False
        | .v (.c (.ptr k f)) => guardB (Nat.ble (m * d.size) k) (Idx n m fun j => K ⟨.v (.c (.ptr d.size fun q => f (j * d.size + q))), none⟩)
        | _ => False
      | _, _ => False
    | _ => False
  | .index t x i => match tg C.tys t with
    | some ⟨.arr m e, _, _, _⟩ => match tg C.tys e, ev st i with
      | some d, .v (.c (.x (.int _ n))) => match ev st x with
        | .v (.agg ls) => guardB (Nat.beq ls.length (m * d.size) && one1 d) (Idx n m fun j => K ⟨vload d.k.agg d.size (ls.drop (j * d.size)), none⟩)
        | _ => False
      | _, _ => False
    | _ => False
  | .slice t x lo hi none => match tg C.tys t with
    | some ⟨.slice e, _, _, _⟩ => match tg C.tys e with
      | some d => match ev st x with
        | .v (.c (.sl k α mk Z n)) => guardB (Nat.beq k d.size) (SlOb (lo.map (ev st)) (hi.map (ev st)) n fun l h => K ⟨.v (.c (.sl k α mk (shiftZ α Z l) (h - l))), none⟩)
        | .v (.c (.row b)) => match og st.own b with
          | some (.rw k _ _ _ _ _ n) => guardB (Nat.beq k d.size) (SlOb (lo.map (ev st)) (hi.map (ev st)) n fun l h => Ob (l < h) (K ⟨.v (.c (.rs b k l (h - l) fun _ => True)), none⟩))
          | _ => False
        | _ => False
      | none => False
    | _ => False
  | .binOp op t x y _ => match ev st x, ev st y with
    | .v (.c (.x (.int k a))), .v (.c (.x (.int k' b))) => arith2 k k' op a b fun r => K ⟨r, none⟩
    | .v (.c (.x (.bool a))), .v (.c (.x (.bool b))) => match tg C.tys t with
      | some ⟨.bool, _, _, _⟩ => logic op a b fun r => K ⟨r, none⟩
      | _ => False
    | .v (.agg ls), .v (.agg ls') => match op with
      | .eql => EqOb C .eql t ls ls' fun b => K ⟨bool b, none⟩
      | .neq => EqOb C .neq t ls ls' fun b => K ⟨bool b, none⟩
      | _ => False
    | .v (.c (.sl _ _ _ _ n)), .v (.c (.x (.slice none 0 0))) => match tg C.tys t, op with
      | some ⟨.slice _, _, _, _⟩, .eql => Ob (1 ≤ n) (K ⟨bool false, none⟩)
      | some ⟨.slice _, _, _, _⟩, .neq => Ob (1 ≤ n) (K ⟨bool true, none⟩)
      | _, _ => False
    | .v (.c (.x (.slice none 0 0))), .v (.c (.x (.slice none 0 0))) => match tg C.tys t, op with
      | some ⟨.slice _, _, _, _⟩, .eql => K ⟨bool true, none⟩
      | some ⟨.slice _, _, _, _⟩, .neq => K ⟨bool false, none⟩
      | _, _ => False
    | _, _ => False
  | .unOp op _ x => match op, ev st x with
    | .not, .v (.c (.x (.bool a))) => K ⟨bool (!a), none⟩
    | .neg, .v (.c (.x (.int k a))) => WrOb k (-a) fun z => K ⟨int k z, none⟩
    | _, _ => False
  | .convert s t x => match tg C.tys s, tg C.tys t, ev st x with
    | some ⟨.int _, _, _, _⟩, some ⟨.int k, _, _, _⟩, .v (.c (.x (.int _ a))) => WrOb k a fun z => K ⟨int k z, none⟩
    | _, _, _ => False
  | .build t parts => match tg C.tys t with
    | some ⟨.struct fs, _, _, z⟩ => match sizesOf C.tys fs with
      | some sz => match fillL sz (z.map .x) (parts.toList.map fun p => (p.1, ev st p.2)) with
        | some ls => guardB (z.all Value.oneCell') (K ⟨.v (.agg ls), none⟩)
        | none => False
      | none => False
    | some ⟨.arr m e, _, _, z⟩ => match tg C.tys e with
      | some d => match fillL ((List.range m).map fun i => (i * d.size, d.size)) (z.map .x) (parts.toList.map fun p => (p.1, ev st p.2)) with
        | some ls => guardB (z.all Value.oneCell') (K ⟨.v (.agg ls), none⟩)
        | none => False
      | none => False
    | _ => False
  | .buildSlice t n parts => match tg C.tys t with
    | some ⟨.slice e, _, _, _⟩ => match tg C.tys e with
      | some d => match n with
        | 0 => guardB (parts.toList.isEmpty && Nat.beq d.zero.length d.size && Nat.ble 1 d.size && (og st.own st.nx).isNone) (MkRow d.size d.zero 0 fun α mk Z m => K ⟨.v (.c (.row st.nx)), some (st.nx, .rw d.size e false α mk Z m)⟩)
        | n => match fillL ((List.range n).map fun i => (i * d.size, d.size)) (zerosL d.zero n) (parts.toList.map fun p => (p.1, ev st p.2)) with
        | some ls => guardB (d.zero.all Value.oneCell' && Nat.beq d.zero.length d.size && Nat.ble (n * d.size) 16777216 && Nat.ble 1 d.size && Nat.ble 1 n && ls.all pureL) (K ⟨.v (.c (.sl d.size Nat (fun i j => getL ls (i * d.size + j)) id n)), none⟩)
        | none => False
      | none => False
    | _ => False
  | .extract x i => match ev st x with
    | .tup ts => match ts[i]? with
      | some a => K ⟨.v a, none⟩
      | none => False
    | _ => False
  | .makeFunc (.func f) first caps => match capsOf (caps.toList.map (ev st)) with
    | some bs => guardB (first.toList.isEmpty && bs.all fun b => (og st.own b).isSome) (K ⟨.v (.c (.fn f bs)), none⟩)
    | none => guardB (first.toList.isEmpty && (caps.toList.map (ev st)).all ptrB) (MkFn C f (caps.toList.map (ev st)) K)
  | .makeSlice t l c => match tg C.tys t with
    | some ⟨.slice e, _, _, _⟩ => match tg C.tys e, ev st l, ev st c with
      | some d, .v (.c (.x (.int .i64 n))), .v (.c (.x (.int .i64 n'))) => guardB (Nat.beq d.zero.length d.size && Nat.ble 1 d.size && d.zero.all nou && d.zero.all Value.oneCell' && (og st.own st.nx).isNone)
          (Ob (n' = n ∧ n ≤ 1099511627776 ∧ d.bytes ≤ 256) (MkRow d.size d.zero n fun α mk Z m => K ⟨.v (.c (.row st.nx)), some (st.nx, .rw d.size e false α mk Z m)⟩))
      | _, _, _ => False
    | _ => False
  | .call ⟨.builtin .len, args, ts⟩ => match args.toList, ts.toList with
    | [x], [t] => match tg C.tys t with
      | some ⟨.slice _, _, _, _⟩ => match ev st x with
        | .v (.c (.sl _ _ _ _ n)) => K ⟨int .i64 n, none⟩
        | .v (.c (.row b)) => match og st.own b with
          | some (.rw _ _ _ _ _ _ n) => K ⟨int .i64 n, none⟩
          | _ => False
        | .v (.c (.rs b _ _ m _)) => match og st.own b with
          | some (.rw ..) => K ⟨int .i64 m, none⟩
          | _ => False
        | .v (.c (.x (.slice _ n _))) => K ⟨int .i64 n, none⟩
        | _ => False
      | _ => False
    | _, _ => False
  | .call ⟨.builtin .max, args, _⟩ => match args.toList with
    | x :: l => match ev st x with
      | .v (.c (.x (.int k a))) => match foldMM true a (l.map (ev st)) with
        | some m => K ⟨int k m, none⟩
        | none => False
      | _ => False
    | [] => False
  | .call ⟨.builtin .min, args, _⟩ => match args.toList with
    | x :: l => match ev st x with
      | .v (.c (.x (.int k a))) => match foldMM false a (l.map (ev st)) with
        | some m => K ⟨int k m, none⟩
        | none => False
      | _ => False
    | [] => False
  | .call ⟨.value (.func f), args, _⟩ => CallP C st f (args.toList.map (ev st)) K
  | .call ⟨.value x, args, _⟩ => match ev st x with
    | .v (.c (.p φ)) => CallV C st φ (args.toList.map (ev st)) K
    | _ => False
  | .nilCheck x => match ev st x with
    | .v (.c (.ptr k f)) => K ⟨.v (.c (.ptr k f)), none⟩
    | .v (.c (.loc b o)) => match og st.own b with
      | some (.st _) => K ⟨.v (.c (.loc b o)), none⟩
      | _ => False
    | _ => False
  | _ => False
end Go.VG

/- States in letters: the operations that leave what was there as it was are met (first part). -/
namespace Go.VG
open Go Go.RowKit

theorem pure_run {C : Ctx} {ops : Array Oper} {st : St} {o : Oper} {r : Res} (hg : o.guard = none) (s : (Operand → Value) → Sem Value) (ho : ∀ ρ, execOp ρ o = do pure (.value (← s ρ)))
    (h : ∀ (F : Fix) (ρ : Nat → Value) (a : Act) (w : World), F.G = C.G → SatE F ρ st a w → ∃ v w', (s a.eval).run C.P w = .ok v w' ∧ Made F ρ st r v w w') : PureOp C ops st o r :=
  pure_value hg fun F ρ a w hG hs => by
    obtain ⟨v, w', h1, h2⟩ := h F ρ a w hG hs
    exact ⟨v, w', by rw [ho]; simp [h1], h2⟩
section
variable {C : Ctx} {ops : Array Oper} {st : St} {K : Res → Prop} {F : Fix} {ρ : Nat → Value} {a : Act} {w : World}

theorem ev_x {x : Operand} {u : Value} (h : SatE F ρ st a w) (e : ev st x = .v (.c (.x u))) : a.eval x = u := by
  have := (h.ev x).now
  rw [e] at this
  exact this.2
theorem ev_rob {x : Operand} {av : AV} (h : SatE F ρ st a w) (e : ev st x = av) : Rob F ρ st.own w fun ρ' w' => av.at ρ' w' (a.eval x) := by
  have := h.ev x
  rwa [e] at this
theorem rob_x {u : Value} (hu : u.oneCell' = true) {own : List (Nat × Blk)} : Rob F ρ own w fun ρ' w' => (AV.v (.c (.x u))).at ρ' w' u := fun _ _ _ _ => ⟨hu, rfl⟩
theorem ev_loc {x : Operand} {b o : Nat} (h : SatE F ρ st a w) (e : ev st x = .v (.c (.loc b o))) : a.eval x = locV (ρ b) o := by
  have := (h.ev x).now
  rw [e] at this
  exact this.2
theorem oneCell_eq {u : Value} (h : u.oneCell' = true) : u.cells = #[u] := by cases u <;> first | rfl | cases h
theorem cellsR_take {R : Leaf → Value → Prop} : ∀ {ls : List Leaf} {us : List Value} (n : Nat), CellsR R ls us → CellsR R (ls.take n) (us.take n)
  | _, _, 0, _ => by simp [CellsR]
  | [], [], n + 1, _ => by simp [CellsR]
  | _ :: _, _ :: _, n + 1, ⟨h1, h2⟩ => ⟨h1, cellsR_take n h2⟩
  | [], _ :: _, _ + 1, h => h.elim
  | _ :: _, [], _ + 1, h => h.elim
theorem cellsR_drop {R : Leaf → Value → Prop} : ∀ {ls : List Leaf} {us : List Value} (n : Nat), CellsR R ls us → CellsR R (ls.drop n) (us.drop n)
  | _, _, 0, h => h
  | [], [], n + 1, _ => by simp [CellsR]
  | _ :: _, _ :: _, n + 1, ⟨_, h2⟩ => cellsR_drop n h2
  | [], _ :: _, _ + 1, h => h.elim
  | _ :: _, [], _ + 1, h => h.elim
theorem cellsR_append {R : Leaf → Value → Prop} : ∀ {ls ms : List Leaf} {us vs : List Value}, CellsR R ls us → CellsR R ms vs → CellsR R (ls ++ ms) (us ++ vs)
  | [], _, [], _, _, h => h
  | _ :: _, _, _ :: _, _, ⟨h1, h2⟩, h => ⟨h1, cellsR_append h2 h⟩
  | [], _, _ :: _, _, h, _ => h.elim
  | _ :: _, _, [], _, h, _ => h.elim
theorem vload_at {d : TyD} {ls : List Leaf} {us : List Value} {ρ : Nat → Value} {w : World} (h : CellsR (Leaf.at ρ w) ls us) (hl : us.length = d.size) (h1 : one1 d = true) :
    (vload d.k.agg d.size ls).at ρ w (if d.k.agg then .agg us.toArray else us.headD undef) := by
  have hlen := h.len
  unfold vload
  cases ha : d.k.agg with
  | true =>
    have : ls.take d.size = ls := List.take_of_length_le (by omega)
    simp only [cond_true, if_true, this]
    exact ⟨us, rfl, h⟩
  | false =>
    have h2 : d.size = 1 := by
      unfold one1 at h1
      rw [ha] at h1
      exact Nat.eq_of_beq_eq_true (by simpa using h1)
    match us, ls, hl, hlen, h with
    | [u], [l], _, _, h => exact h.1
    | [], _, hl, _, _ => simp at hl; omega
    | _ :: _ :: _, _, hl, _, _ => simp at hl; omega
    | [u], [], _, hlen, _ => simp at hlen
    | [u], _ :: _ :: _, _, hlen, _ => simp at hlen
theorem one1_spec {d : TyD} (h : one1 d = true) : d.k.agg = false → d.size = 1 := fun ha => by
  unfold one1 at h
  rw [ha] at h
  exact Nat.eq_of_beq_eq_true (by simpa using h)
theorem locV_ptr (g o : Nat) : locV (.pointer (some ⟨g, 0, none⟩)) o = .pointer (some ⟨g, o, none⟩) := rfl
theorem locV_sl (g n c o : Nat) : locV (.slice (some ⟨g, 0, none⟩) n c) o = .pointer (some ⟨g, o, none⟩) := rfl

theorem snd_move {o : Oper} {x : Operand} (hg : o.guard = none) (ho : o.op = .move x ∨ o.op = .assign x) (h : K ⟨ev st x, none⟩) : ∃ r, K r ∧ PureOp C ops st o r :=
  ⟨_, h, pure_run hg (fun ρ => pure (ρ x)) (fun ρ => by rcases ho with ho | ho <;> simp [execOp, ho]) fun _ _ _ w _ hs => ⟨_, w, rfl, made_plain (hs.ev x)⟩⟩
theorem snd_pick {o : Oper} {c x y : Operand} {t : Bool} (hg : o.guard = none) (ho : o.op = .pick c x y) (hc : ev st c = .v (.c (.x (.bool t)))) (h : Cases t fun tb => K ⟨bif tb then ev st x else ev st y, none⟩) : ∃ r, K r ∧ PureOp C ops st o r := by
  refine ⟨_, h.get, pure_run hg (fun ρ => do pure (if ← asBool (ρ c) then ρ x else ρ y)) (fun ρ => by simp [execOp, ho]) fun F ρ a w _ hs => ?_⟩
  refine ⟨if t then a.eval x else a.eval y, w, by simp [ev_x hs hc, asBool], made_plain ?_⟩
  cases t with
  | true => exact hs.ev x
  | false => exact hs.ev y
theorem made_alloc {cs : List Value} {ls : List Leaf} {e : TypeId} (h0 : og st.own st.nx = none) (hn : NoU cs) {w : World}
    (hc : Rob F ρ st.own w fun ρ' w' => CellsR (Leaf.at ρ' w') ls cs) : Made F ρ st ⟨.v (.c (.loc st.nx 0)), some (st.nx, .st ls)⟩ (.pointer (some ⟨w.heap.size, 0, none⟩)) w (w.alloc (.cells cs.toArray e)) := by
  have hbel : Below w.heap.size w (w.alloc (.cells cs.toArray e)) := (Below.refl _ _).alloc (Nat.le_refl _) _
  refine ⟨hbel, h0, .pointer (some ⟨w.heap.size, 0, none⟩), fun g hg => by cases hg; exact Nat.le_refl _, fun ρ' w' h1 h2 => ⟨rfl, ?_⟩, ?_⟩
  · have := h1 st.nx (by rw [og_cons, if_pos rfl]; rfl)
    show _ = locV (ρ' st.nx) 0
    rw [this, updρ_at, locV_ptr]
  · refine ⟨w.heap.size, cs.toArray, e, rfl, ?_, ?_, by simpa using hn⟩
    · exact heap_alloc_new w _
    · have := hc.new (k := .st ls) (v := .pointer (some ⟨w.heap.size, 0, none⟩)) h0 hbel fun g hg => by cases hg; exact Nat.le_refl _
      simpa using CellsR.unrob this
theorem noU_of {cs : List Value} (_ : cs.all nou = true) : NoU cs := trivial
theorem cells_x {cs : List Value} (h : cs.all Value.oneCell' = true) {ρ : Nat → Value} {w : World} : CellsR (Leaf.at ρ w) (cs.map .x) cs :=
  CellsR.of (by simp) fun i l u h1 h2 => by
    rw [List.getElem?_map, h2] at h1
    cases h1
    exact ⟨List.all_eq_true.1 h _ (List.mem_of_getElem? h2), rfl⟩
theorem snd_alloc (hT : TysOk C.P C.tys) {o : Oper} {t : TypeId} {d : TyD} (hg : o.guard = none) (ho : o.op = .alloc t) (ht : tg C.tys t = some d)
    (h : guardB (d.zero.all nou && (og st.own st.nx).isNone && d.zero.all Value.oneCell') (K ⟨.v (.c (.loc st.nx 0)), some (st.nx, .st (d.zero.map .x))⟩)) : ∃ r, K r ∧ PureOp C ops st o r := by
  obtain ⟨h1, h2⟩ := guardB_out h
  rw [Bool.and_eq_true, Bool.and_eq_true] at h1
  obtain ⟨⟨h1, h3⟩, h4⟩ := h1
  refine ⟨_, h2, pure_run hg (fun _ => Instr.alloc t true (.tuple #[])) (fun ρ => by simp [execOp, ho]) fun F ρ a w _ hs => ?_⟩
  obtain ⟨z, hz, hzc⟩ := run_zero (tysOk_get hT ht) w
  refine ⟨_, w.alloc (.cells d.zero.toArray t), ?_, made_alloc (by simpa using h3) (noU_of h1) fun _ _ _ _ => cells_x h4⟩
  have : z.cells = d.zero.toArray := by rw [← hzc]
  simp [Instr.alloc, hz, newVar, newRow, this]
theorem snd_box {o : Oper} {t : TypeId} {x : Operand} {ls : List Leaf} (hg : o.guard = none) (ho : o.op = .box t x) (hl : leaves (ev st x) = some ls)
    (h : guardB (ls.all leafNou && (og st.own st.nx).isNone) (K ⟨.v (.c (.loc st.nx 0)), some (st.nx, .st ls)⟩)) : ∃ r, K r ∧ PureOp C ops st o r := by
  obtain ⟨h1, h2⟩ := guardB_out h
  rw [Bool.and_eq_true] at h1
  obtain ⟨h1, h3⟩ := h1
  refine ⟨_, h2, pure_run hg (fun ρ => Instr.box t (ρ x)) (fun ρ => by simp [execOp, ho]) fun F ρ a w _ hs => ?_⟩
  have hcells : Rob F ρ st.own w fun ρ' w' => CellsR (Leaf.at ρ' w') ls (a.eval x).cells.toList := by
    intro ρ' w' k1 k2
    have := hs.ev x ρ' w' k1 k2
    cases hx : ev st x with
    | any => rw [hx] at hl; cases hl
    | tup _ => rw [hx] at hl; cases hl
    | v v1 =>
      rw [hx] at hl this
      cases v1 with
      | c l =>
        cases hl
        have h1 : (a.eval x).oneCell' = true := this.1
        rw [oneCell_eq h1]
        exact ⟨⟨h1, this.2⟩, trivial⟩
      | agg l =>
        cases hl
        obtain ⟨cs, e, hc⟩ := this
        rw [e]
        exact hc
  have hnou : NoU (a.eval x).cells.toList := trivial
  exact ⟨_, w.alloc (.cells (a.eval x).cells.toList.toArray t), by simp [Instr.box, newVar, newRow], made_alloc (by simpa using h3) hnou hcells⟩

theorem st_cells {b o n : Nat} {ls : List Leaf} (hs : SatE F ρ st a w) (hb : og st.own b = some (.st ls)) (hn : o + n ≤ ls.length) :
    ∃ g cs, ρ b = .pointer (some ⟨g, 0, none⟩) ∧ cs.length = n ∧ (∀ (j : Nat) (u : Value), cs[j]? = some u → w.cell? ⟨g, o + j, none⟩ = some u) ∧ Rob F ρ st.own w fun ρ' w' => CellsR (Leaf.at ρ' w') ((ls.drop o).take n) cs := by
  obtain ⟨g, c, e, h1, h2, h3, _⟩ := hs.own b _ hb
  refine ⟨g, (c.toList.drop o).take n, h1, ?_, fun j u hj => ?_, fun ρ' w' k1 k2 => cellsR_take n (cellsR_drop o (h3.rob ρ' w' k1 k2))⟩
  · have := h3.len
    rw [List.length_take, List.length_drop]
    omega
  · rw [List.getElem?_take] at hj
    split at hj
    · rw [List.getElem?_drop] at hj
      simp only [World.cell?, h2]
      simpa using hj
    · cases hj
theorem tab_len : ∀ (n : Nat) (f : Nat → Leaf) (k : Nat), (tab n f k).length = n
  | 0, _, _ => rfl
  | n + 1, f, k => by rw [tab, List.length_cons, tab_len n f (k + 1)]
theorem tab_get : ∀ (n : Nat) (f : Nat → Leaf) (k j : Nat) (l : Leaf), (tab n f k)[j]? = some l → j < n ∧ l = f (k + j)
  | 0, _, _, _, _, h => by simp [tab] at h
  | n + 1, f, k, 0, l, h => by simp [tab] at h; exact ⟨by omega, h.symm⟩
  | n + 1, f, k, j + 1, l, h => by
    have := tab_get n f (k + 1) j l (by simpa [tab] using h)
    exact ⟨by omega, by rw [this.2]; congr 1; omega⟩
theorem load_of (hT : TysOk C.P C.tys) {o : Oper} {t : TypeId} {x : Operand} {d : TyD} {ls : List Leaf} (hg : o.guard = none) (ho : o.op = .load t x) (ht : tg C.tys t = some d) (h1 : one1 d = true) (hk : K ⟨vload d.k.agg d.size ls, none⟩)
    (hl : ls.length = d.size) (h : ∀ (F : Fix) (ρ : Nat → Value) (a : Act) (w : World), SatE F ρ st a w → ∃ g off cs, a.eval x = .pointer (some ⟨g, off, none⟩) ∧ (∀ (j : Nat) (u : Value), cs[j]? = some u → w.cell? ⟨g, off + j, none⟩ = some u) ∧ Rob F ρ st.own w fun ρ' w' => CellsR (Leaf.at ρ' w') ls cs) :
    ∃ r, K r ∧ PureOp C ops st o r := by
  refine ⟨_, hk, pure_run hg (fun ρ => Instr.loadAt t (ρ x)) (fun ρ => by simp [execOp, ho]) fun F ρ a w _ hs => ?_⟩
  obtain ⟨g, off, cs, q1, q2, q3⟩ := h F ρ a w hs
  have hcl := q3.now.len
  exact ⟨_, w, by simp [Instr.loadAt, Instr.sureAddr, q1, run_loadVar (tysOk_get hT ht) g off cs w q2 (by omega) (one1_spec h1)], made_plain fun ρ' w' k1 k2 => vload_at (q3 ρ' w' k1 k2) (by omega) h1⟩
theorem snd_load_loc (hT : TysOk C.P C.tys) {o : Oper} {t : TypeId} {x : Operand} {d : TyD} {b i : Nat} {ls : List Leaf} (hg : o.guard = none) (ho : o.op = .load t x) (ht : tg C.tys t = some d) (hx : ev st x = .v (.c (.loc b i))) (hb : og st.own b = some (.st ls))
    (h : guardB (Nat.ble (i + d.size) ls.length && one1 d) (K ⟨vload d.k.agg d.size (ls.drop i), none⟩)) : ∃ r, K r ∧ PureOp C ops st o r := by
  obtain ⟨h1, h2⟩ := guardB_out h
  rw [Bool.and_eq_true] at h1
  have hle := Nat.le_of_ble_eq_true h1.1
  have e : vload d.k.agg d.size (ls.drop i) = vload d.k.agg d.size ((ls.drop i).take d.size) := by
    unfold vload
    cases ha : d.k.agg with
    | true => simp [List.take_take]
    | false =>
      have := one1_spec h1.2 ha
      rw [this]
      cases ls.drop i <;> simp
  rw [e] at h2
  refine load_of hT hg ho ht h1.2 h2 (by rw [List.length_take, List.length_drop]; omega) fun F ρ a w hs => ?_
  obtain ⟨g, cs, q1, q2, q3, q4⟩ := st_cells hs hb hle
  exact ⟨g, i, cs, by rw [ev_loc hs hx, q1, locV_ptr], q3, q4⟩
theorem not_mt {g o : Nat} {own : List (Nat × Blk)} (h : Rob F ρ own w fun _ w' => ∃ u, w'.cell? ⟨g, o, none⟩ = some u) : ¬ Mt F ρ own g ∧ g < w.heap.size := by
  obtain ⟨u, hu⟩ := h.now
  have hlt := World.block_lt_of_cell? w _ hu
  refine ⟨fun hm => ?_, hlt⟩
  obtain ⟨u', hu'⟩ := h ρ { w with heap := w.heap.setIfInBounds g (.chan 0 #[] false 0 0 false) } (Agr.refl _ _) ⟨by simp, fun k hk hn => by
    have hne : g ≠ k := fun x => hn (x ▸ hm)
    exact Array.getElem?_setIfInBounds_ne hne⟩
  simp only [World.cell?, Array.getElem?_setIfInBounds_self_of_lt hlt] at hu'
  cases hu'
theorem cell_kept {g o o' : Nat} {own : List (Nat × Blk)} (h : Rob F ρ own w fun _ w' => ∃ u, w'.cell? ⟨g, o, none⟩ = some u) : Rob F ρ own w fun _ w' => w'.cell? ⟨g, o', none⟩ = w.cell? ⟨g, o', none⟩ := fun ρ' w' _ k2 => by
  obtain ⟨h1, h2⟩ := not_mt h
  exact World.cell?_of_block (w := w) (k2.keep g h2 h1)
theorem ptr_cells {g off k n : Nat} {f : Nat → Leaf} {own : List (Nat × Blk)} (h : Rob F ρ own w fun _ w' => ∀ j, j < k → ∃ u, w'.cell? ⟨g, off + j, none⟩ = some u ∧ u.oneCell' = true ∧ ∀ r, (f j).at r w' u) (hn : n ≤ k) :
    ∃ cs : List Value, (∀ (j : Nat) (u : Value), cs[j]? = some u → w.cell? ⟨g, off + j, none⟩ = some u) ∧ Rob F ρ own w fun ρ' w' => CellsR (Leaf.at ρ' w') (tab n f 0) cs := by
  have hM : ∀ j, j < k → Rob F ρ own w fun _ w' => w'.cell? ⟨g, off + j, none⟩ = w.cell? ⟨g, off + j, none⟩ := fun j hj => cell_kept (o := off + j) fun ρ' w' k1 k2 => by
    obtain ⟨u, e, _⟩ := h ρ' w' k1 k2 j hj
    exact ⟨u, e⟩
  refine ⟨(List.range n).map fun j => (w.cell? ⟨g, off + j, none⟩).getD undef, fun j u hj => ?_, fun ρ' w' k1 k2 => CellsR.of (by rw [tab_len]; simp) fun i l u q1 q2 => ?_⟩
  · have hlt : j < n := by
      rcases Nat.lt_or_ge j n with hlt | hge
      · exact hlt
      · rw [List.getElem?_eq_none (by simpa using hge)] at hj; cases hj
    obtain ⟨u', e1, _⟩ := h.now j (by omega)
    rw [List.getElem?_map, List.getElem?_range hlt, Option.map_some, e1] at hj
    rw [e1]
    exact hj
  · obtain ⟨hlt, rfl⟩ := tab_get _ _ _ _ _ q1
    obtain ⟨u', e1, e2, e3⟩ := h ρ' w' k1 k2 i (by omega)
    rw [List.getElem?_map, List.getElem?_range hlt, Option.map_some] at q2
    rw [hM i (by omega) ρ' w' k1 k2] at e1
    rw [e1] at q2
    cases q2
    rw [Nat.zero_add]
    exact ⟨e2, e3 ρ'⟩
theorem snd_load_ptr (hT : TysOk C.P C.tys) {o : Oper} {t : TypeId} {x : Operand} {d : TyD} {k : Nat} {f : Nat → Leaf} (hg : o.guard = none) (ho : o.op = .load t x) (ht : tg C.tys t = some d) (hx : ev st x = .v (.c (.ptr k f)))
    (h : guardB (Nat.ble d.size k && one1 d) (K ⟨vload d.k.agg d.size (tab d.size f 0), none⟩)) : ∃ r, K r ∧ PureOp C ops st o r := by
  obtain ⟨h1, h2⟩ := guardB_out h
  rw [Bool.and_eq_true] at h1
  have hle := Nat.le_of_ble_eq_true h1.1
  refine load_of hT hg ho ht h1.2 h2 (tab_len _ _ _) fun F ρ a w hs => ?_
  have hr := ev_rob hs hx
  obtain ⟨_, g, off, e, _⟩ := hr.now
  obtain ⟨cs, q1, q2⟩ := ptr_cells (g := g) (off := off) (k := k) (f := f) (n := d.size) (fun ρ' w' k1 k2 => by
    obtain ⟨_, g', off', e', h'⟩ := hr ρ' w' k1 k2
    rw [e] at e'
    cases e'
    exact h') hle
  exact ⟨g, off, cs, e, q1, q2⟩
theorem rw_cells {b i j k n m : Nat} {e : TypeId} {u : Bool} {α : Type} {mk : α → Nat → Leaf} {Z : Nat → α} (hs : SatE F ρ st a w) (hb : og st.own b = some (.rw k e u α mk Z n)) (hi : i < n) (hm : j + m ≤ k) :
    ∃ g cap cs, ρ b = .slice (some ⟨g, 0, none⟩) n cap ∧ (∀ (q : Nat) (x : Value), cs[q]? = some x → w.cell? ⟨g, i * k + j + q, none⟩ = some x) ∧ Rob F ρ st.own w fun ρ' w' => CellsR (Leaf.at ρ' w') (tab m (fun q => mk (Z i) (j + q)) 0) cs := by
  rcases hs.own b _ hb with ⟨_, h⟩ | ⟨g, cap, c, h1, h2, h3, h4, h5, h6, h7⟩
  · omega
  · refine ⟨g, cap, (List.range m).map fun q => (c[i * k + j + q]?).getD undef, h1, fun q x hq => ?_, fun ρ' w' k1 k2 => CellsR.of (by rw [tab_len]; simp) fun q l x q1 q2 => ?_⟩
    · have hlt : q < m := by
        rcases Nat.lt_or_ge q m with hlt | hge
        · exact hlt
        · rw [List.getElem?_eq_none (by simpa using hge)] at hq; cases hq
      obtain ⟨_, x', e1, _⟩ := h7 i (j + q) hi (by omega)
      rw [← Nat.add_assoc] at e1
      rw [List.getElem?_map, List.getElem?_range hlt, Option.map_some, e1] at hq
      simp only [World.cell?, h2]
      rw [← hq]
      simpa using e1
    · obtain ⟨hlt, rfl⟩ := tab_get _ _ _ _ _ q1
      obtain ⟨_, x', e1, e2, e3⟩ := h7 i (j + q) hi (by omega)
      rw [← Nat.add_assoc] at e1
      rw [List.getElem?_map, List.getElem?_range hlt, Option.map_some, e1] at q2
      cases q2
      rw [Nat.zero_add]
      exact ⟨e2, e3 ρ' w' k1 k2⟩
theorem snd_load_rl (hT : TysOk C.P C.tys) {o : Oper} {t : TypeId} {x : Operand} {d : TyD} {b k k' i j n : Nat} {e : TypeId} {u : Bool} {α : Type} {mk : α → Nat → Leaf} {Z : Nat → α} (hg : o.guard = none) (ho : o.op = .load t x) (ht : tg C.tys t = some d)
    (hx : ev st x = .v (.c (.rl b k i j))) (hb : og st.own b = some (.rw k' e u α mk Z n))
    (h : guardB (Nat.beq k k' && Nat.ble (j + d.size) k && one1 d) (Ob (i < n) (K ⟨vload d.k.agg d.size (tab d.size (fun q => mk (Z i) (j + q)) 0), none⟩))) : ∃ r, K r ∧ PureOp C ops st o r := by
  obtain ⟨h1, h2⟩ := guardB_out h
  rw [Bool.and_eq_true, Bool.and_eq_true] at h1
  obtain ⟨⟨h1, h3⟩, h4⟩ := h1
  obtain rfl := Nat.eq_of_beq_eq_true h1
  refine load_of hT hg ho ht h4 h2.b (tab_len _ _ _) fun F ρ a w hs => ?_
  obtain ⟨g, cap, cs, q1, q2, q3⟩ := rw_cells hs hb h2.a (Nat.le_of_ble_eq_true h3)
  have hr := (ev_rob hs hx).now.2
  have hr : a.eval x = locV (ρ b) (i * k + j) := hr
  exact ⟨g, i * k + j, cs, by rw [hr, q1, locV_sl], q2, q3⟩
theorem tyOf_struct {P : Program} {t : TypeId} {fs : List (Nat × TypeId)} {s b : Nat} {z : List Value} (h : tyOf P t = some ⟨.struct fs, s, b, z⟩) : ∃ fa : Array Field, P.underlying t = some (.struct fa) ∧ fa.toList.map (fun f => (f.offset, f.type)) = fs := by
  obtain ⟨i, u, z, h1, h2, h3, h4⟩ := tyOf_spec h
  cases u <;> simp [kOf] at h4
  next fa => exact ⟨fa, h2, h4.1.symm⟩
theorem tyOf_slice {P : Program} {t e : TypeId} {s b : Nat} {z : List Value} (h : tyOf P t = some ⟨.slice e, s, b, z⟩) : P.underlying t = some (.slice e) := by
  obtain ⟨i, u, z, h1, h2, h3, h4⟩ := tyOf_spec h
  cases u <;> simp [kOf] at h4
  rw [h2, h4.1]
theorem tyOf_arr {P : Program} {t e : TypeId} {n s b : Nat} {z : List Value} (h : tyOf P t = some ⟨.arr n e, s, b, z⟩) : P.underlying t = some (.array n e) := by
  obtain ⟨i, u, z, h1, h2, h3, h4⟩ := tyOf_spec h
  cases u <;> simp [kOf] at h4
  rw [h2, h4.1.1, h4.1.2]
theorem tyOf_int {P : Program} {t : TypeId} {k : IntKind} {s b : Nat} {z : List Value} (h : tyOf P t = some ⟨.int k, s, b, z⟩) : P.underlying t = some (.int k) := by
  obtain ⟨i, u, z, h1, h2, h3, h4⟩ := tyOf_spec h
  cases u <;> simp [kOf] at h4
  rw [h2, h4.1]
theorem field_at {fa : Array Field} {i off : Nat} {ft : TypeId} (h : (fa.toList.map (fun f => (f.offset, f.type)))[i]? = some (off, ft)) : ∃ f, fa[i]? = some f ∧ f.offset = off ∧ f.type = ft := by
  rw [List.getElem?_map] at h
  cases hf : fa.toList[i]? with
  | none => rw [hf] at h; cases h
  | some f =>
    rw [hf] at h
    simp at h
    exact ⟨f, by simpa using hf, h.1, h.2⟩
theorem snd_fieldAddr (hT : TysOk C.P C.tys) {o : Oper} {t ft : TypeId} {x : Operand} {d : TyD} {i off s sb : Nat} {z : List Value} {fs : List (Nat × TypeId)} {av : AV} (hg : o.guard = none) (ho : o.op = .fieldAddr t x i) (ht : tg C.tys t = some ⟨.struct fs, s, sb, z⟩)
    (hf : fs[i]? = some (off, ft)) (hd : tg C.tys ft = some d) (h0 : d.size ≠ 0) (hk : K ⟨av, none⟩)
    (h : ∀ (F : Fix) (ρ : Nat → Value) (a : Act) (w : World), SatE F ρ st a w → ∃ g o, a.eval x = .pointer (some ⟨g, o, none⟩) ∧ Rob F ρ st.own w fun ρ' w' => av.at ρ' w' (.pointer (some ⟨g, o + off, none⟩))) : ∃ r, K r ∧ PureOp C ops st o r := by
  refine ⟨_, hk, pure_run hg (fun ρ => Instr.fieldAt t (ρ x) i) (fun ρ => by simp [execOp, ho]) fun F ρ a w _ hs => ?_⟩
  obtain ⟨g, q, q1, q2⟩ := h F ρ a w hs
  obtain ⟨fa, u1, u2⟩ := tyOf_struct (tysOk_get hT ht)
  obtain ⟨f, f1, f2, f3⟩ := field_at (u2 ▸ hf)
  have hadd : (⟨g, q, none⟩ : Addr).add off = ⟨g, q + off, none⟩ := by unfold Addr.add; split <;> simp_all
  refine ⟨_, w, ?_, made_plain q2⟩
  have hsz : (sizeOf f.type).run C.P w = .ok d.size w := by rw [f3]; exact run_sizeOf (tysOk_get hT hd) w
  simp [Instr.fieldAt, run_underlying u1, f1, Instr.sureAddr, q1, fieldPlace, hsz, h0, f2, hadd]
end
end Go.VG

/- States in letters: the operations that leave what was there as it was are met (second part). -/
namespace Go.VG
open Go Go.RowKit
section
variable {C : Ctx} {ops : Array Oper} {st : St} {K : Res → Prop} {F : Fix} {ρ : Nat → Value} {a : Act} {w : World}

theorem own_st_ptr {b : Nat} (hs : SatE F ρ st a w) {ls : List Leaf} (hb : og st.own b = some (.st ls)) : ∃ g, ρ b = .pointer (some ⟨g, 0, none⟩) := by
  obtain ⟨g, _, _, h, _⟩ := hs.own b _ hb
  exact ⟨g, h⟩
theorem fa_loc {t ft : TypeId} (hT : TysOk C.P C.tys) {o : Oper} {x : Operand} {d : TyD} {i off s sb b q : Nat} {z : List Value} {fs : List (Nat × TypeId)} (hg : o.guard = none) (ho : o.op = .fieldAddr t x i) (ht : tg C.tys t = some ⟨.struct fs, s, sb, z⟩)
    (hf : fs[i]? = some (off, ft)) (hd : tg C.tys ft = some d) (h0 : d.size ≠ 0) {ls : List Leaf} (hb : og st.own b = some (.st ls)) (hx : ev st x = .v (.c (.loc b q))) (hk : K ⟨.v (.c (.loc b (q + off))), none⟩) : ∃ r, K r ∧ PureOp C ops st o r :=
  snd_fieldAddr hT hg ho ht hf hd h0 hk fun F ρ a w hs => by
    obtain ⟨g, hgr⟩ := own_st_ptr hs hb
    refine ⟨g, q, by rw [ev_loc hs hx, hgr, locV_ptr], fun ρ' w' k1 k2 => ⟨rfl, ?_⟩⟩
    show _ = locV (ρ' b) (q + off)
    rw [k1 b (by rw [hb]; rfl), hgr, locV_ptr]
theorem fa_ptr {t ft : TypeId} (hT : TysOk C.P C.tys) {o : Oper} {x : Operand} {d : TyD} {i off s sb k : Nat} {f : Nat → Leaf} {z : List Value} {fs : List (Nat × TypeId)} (hg : o.guard = none) (ho : o.op = .fieldAddr t x i) (ht : tg C.tys t = some ⟨.struct fs, s, sb, z⟩)
    (hf : fs[i]? = some (off, ft)) (hd : tg C.tys ft = some d) (h0 : d.size ≠ 0) (hle : off + d.size ≤ k) (hx : ev st x = .v (.c (.ptr k f))) (hk : K ⟨.v (.c (.ptr d.size fun j => f (off + j))), none⟩) : ∃ r, K r ∧ PureOp C ops st o r :=
  snd_fieldAddr hT hg ho ht hf hd h0 hk fun F ρ a w hs => by
    have hr := ev_rob hs hx
    obtain ⟨_, g, q, e, _⟩ := hr.now
    refine ⟨g, q, e, fun ρ' w' k1 k2 => ⟨rfl, g, q + off, rfl, fun j hj => ?_⟩⟩
    obtain ⟨_, g', q', e', h'⟩ := hr ρ' w' k1 k2
    rw [e] at e'
    cases e'
    obtain ⟨u, u1, u2⟩ := h' (off + j) (by omega)
    exact ⟨u, by rw [Nat.add_assoc]; exact u1, u2⟩
theorem fa_rl {t ft : TypeId} (hT : TysOk C.P C.tys) {o : Oper} {x : Operand} {d : TyD} {i off s sb b k k' m q n : Nat} {e : TypeId} {u : Bool} {α : Type} {mk : α → Nat → Leaf} {Z : Nat → α} {z : List Value} {fs : List (Nat × TypeId)} (hg : o.guard = none) (ho : o.op = .fieldAddr t x i) (ht : tg C.tys t = some ⟨.struct fs, s, sb, z⟩)
    (hf : fs[i]? = some (off, ft)) (hd : tg C.tys ft = some d) (h0 : d.size ≠ 0) (hb : og st.own b = some (.rw k' e u α mk Z n)) (hm : m < n) (hx : ev st x = .v (.c (.rl b k m q))) (hk : K ⟨.v (.c (.rl b k m (q + off))), none⟩) : ∃ r, K r ∧ PureOp C ops st o r :=
  snd_fieldAddr hT hg ho ht hf hd h0 hk fun F ρ a w hs => by
    rcases hs.own b _ hb with ⟨_, h⟩ | ⟨g, cap, c, h1, _⟩
    · omega
    · have hr : a.eval x = locV (ρ b) (m * k + q) := (ev_rob hs hx).now.2
      refine ⟨g, m * k + q, by rw [hr, h1, locV_sl], fun ρ' w' k1 k2 => ⟨rfl, ?_⟩⟩
      show _ = locV (ρ' b) (m * k + (q + off))
      rw [k1 b (by rw [hb]; rfl), h1, locV_sl, Nat.add_assoc]

def pv (d : TyD) (cs : List Value) (off : Nat) : Value := if d.k.agg then .agg ((cs.drop off).take d.size).toArray else ((cs.drop off).take d.size).headD undef
theorem run_part {P : Program} {t : TypeId} {d : TyD} (h : tyOf P t = some d) (cs : List Value) (off : Nat) (w : World) (hl : off + d.size ≤ cs.length) (h1 : one1 d = true) :
    (part t cs.toArray off).run P w = .ok (pv d cs off) w := by
  unfold part pv
  simp only [Sem.run_bind, run_isAgg h, Result.andThen_ok, Sem.run_ite]
  cases ha : d.k.agg with
  | true =>
    simp only [if_true, run_sizeOf h, Result.andThen_ok, Sem.run_pure]
    congr 2
    apply Array.ext'
    simp only [Array.toList_extract, List.extract_eq_take_drop]
    rw [show off + d.size - off = d.size by omega]
  | false =>
    have h2 := one1_spec h1 ha
    have h3 : off < cs.length := by omega
    rw [h2]
    simp only [Bool.false_eq_true, if_false, List.getElem?_toArray, List.getElem?_eq_getElem h3, Sem.run_pure]
    rw [List.drop_eq_getElem_cons h3]
    rfl
theorem vload_part {d : TyD} {ls : List Leaf} {cs : List Value} {off : Nat} {ρ : Nat → Value} {w : World} (h : CellsR (Leaf.at ρ w) ls cs) (hl : off + d.size ≤ ls.length) (h1 : one1 d = true) :
    (vload d.k.agg d.size (ls.drop off)).at ρ w (pv d cs off) := by
  have hlen := h.len
  have := vload_at (d := d) (cellsR_take d.size (cellsR_drop off h)) (by rw [List.length_take, List.length_drop]; omega) h1
  refine Eq.mp ?_ this
  congr 1
  unfold vload
  cases ha : d.k.agg with
  | true => simp [List.take_take]
  | false =>
    rw [one1_spec h1 ha]
    cases ls.drop off <;> simp
theorem snd_field (hT : TysOk C.P C.tys) {o : Oper} {t ft : TypeId} {x : Operand} {d : TyD} {i off s sb : Nat} {z : List Value} {fs : List (Nat × TypeId)} {ls : List Leaf} (hg : o.guard = none) (ho : o.op = .field t x i) (ht : tg C.tys t = some ⟨.struct fs, s, sb, z⟩)
    (hf : fs[i]? = some (off, ft)) (hd : tg C.tys ft = some d) (hx : ev st x = .v (.agg ls)) (h : guardB (Nat.ble (off + d.size) ls.length && one1 d) (K ⟨vload d.k.agg d.size (ls.drop off), none⟩)) : ∃ r, K r ∧ PureOp C ops st o r := by
  obtain ⟨h1, h2⟩ := guardB_out h
  rw [Bool.and_eq_true] at h1
  have hle := Nat.le_of_ble_eq_true h1.1
  refine ⟨_, h2, pure_run hg (fun ρ => Instr.field t (ρ x) i) (fun ρ => by simp [execOp, ho]) fun F ρ a w _ hs => ?_⟩
  obtain ⟨fa, u1, u2⟩ := tyOf_struct (tysOk_get hT ht)
  obtain ⟨f, f1, f2, f3⟩ := field_at (u2 ▸ hf)
  have hr := ev_rob hs hx
  obtain ⟨cs, e, hc⟩ := hr.now
  have hlen := hc.len
  refine ⟨pv d cs off, w, ?_, made_plain fun ρ' w' k1 k2 => ?_⟩
  · simp only [Instr.field, Sem.run_bind, run_underlying u1, Result.andThen_ok, f1, e, asAgg, Sem.run_pure]
    rw [f2, f3]
    exact run_part (tysOk_get hT hd) cs off w (by omega) h1.2
  · obtain ⟨cs', e', hc'⟩ := hr ρ' w' k1 k2
    rw [e] at e'
    have : cs' = cs := by simpa using e'.symm
    subst this
    exact vload_part hc' hle h1.2
theorem Idx.get {i : Int} {n : Nat} {K : Nat → Prop} (h : Idx i n K) : ∃ m : Nat, i = m ∧ m < n ∧ K m := h.w
theorem addr_add (g q n : Nat) : (⟨g, q, none⟩ : Addr).add n = ⟨g, q + n, none⟩ := by unfold Addr.add; split <;> simp_all
theorem snd_index (hT : TysOk C.P C.tys) {o : Oper} {t e : TypeId} {x y : Operand} {d : TyD} {m s sb : Nat} {kk : IntKind} {n : Int} {z : List Value} {ls : List Leaf} (hg : o.guard = none) (ho : o.op = .index t x y) (ht : tg C.tys t = some ⟨.arr m e, s, sb, z⟩)
    (hd : tg C.tys e = some d) (hy : ev st y = .v (.c (.x (.int kk n)))) (hx : ev st x = .v (.agg ls)) (h : guardB (Nat.beq ls.length (m * d.size) && one1 d) (Idx n m fun j => K ⟨vload d.k.agg d.size (ls.drop (j * d.size)), none⟩)) : ∃ r, K r ∧ PureOp C ops st o r := by
  obtain ⟨h1, h2⟩ := guardB_out h
  rw [Bool.and_eq_true] at h1
  have hlen := Nat.eq_of_beq_eq_true h1.1
  obtain ⟨j, rfl, hj, hk⟩ := h2.get
  have hle : j * d.size + d.size ≤ ls.length := by
    rw [hlen, ← Nat.succ_mul]
    exact Nat.mul_le_mul_right _ hj
  refine ⟨_, hk, pure_run hg (fun ρ => Instr.index t (ρ x) (ρ y)) (fun ρ => by simp [execOp, ho]) fun F ρ a w _ hs => ?_⟩
  have hr := ev_rob hs hx
  obtain ⟨cs, e1, hc⟩ := hr.now
  have hcl := hc.len
  refine ⟨pv d cs (j * d.size), w, ?_, made_plain fun ρ' w' k1 k2 => ?_⟩
  · have hb : (0 : Int) ≤ (j : Int) ∧ (j : Int) < (m : Int) := by omega
    simp only [Instr.index, ev_x hs hy, asIntOf, Sem.run_bind, Sem.run_pure, Result.andThen_ok, run_underlying (tyOf_arr (tysOk_get hT ht)), e1, hb, and_self, if_true, run_sizeOf (tysOk_get hT hd), Int.toNat_natCast]
    exact run_part (tysOk_get hT hd) cs (j * d.size) w (by omega) h1.2
  · obtain ⟨cs', e', hc'⟩ := hr ρ' w' k1 k2
    rw [e1] at e'
    have : cs' = cs := by simpa using e'.symm
    subst this
    exact vload_part hc' hle h1.2
theorem snd_ia_sl (hT : TysOk C.P C.tys) {o : Oper} {t e : TypeId} {x y : Operand} {d : TyD} {m s sb k : Nat} {kk : IntKind} {n : Int} {z : List Value} {α : Type} {mk : α → Nat → Leaf} {Z : Nat → α} (hg : o.guard = none) (ho : o.op = .indexAddr t x y) (ht : tg C.tys t = some ⟨.slice e, s, sb, z⟩)
    (hd : tg C.tys e = some d) (hy : ev st y = .v (.c (.x (.int kk n)))) (hx : ev st x = .v (.c (.sl k α mk Z m))) (h : guardB (Nat.beq k d.size) (Idx n m fun j => K ⟨.v (.c (.ptr k fun q => mk (Z j) q)), none⟩)) : ∃ r, K r ∧ PureOp C ops st o r := by
  obtain ⟨h1, h2⟩ := guardB_out h
  obtain rfl := Nat.eq_of_beq_eq_true h1
  obtain ⟨j, rfl, hj, hk⟩ := h2.get
  refine ⟨_, hk, pure_run hg (fun ρ => Instr.indexAt t (ρ x) (ρ y)) (fun ρ => by simp [execOp, ho]) fun F ρ a w _ hs => ?_⟩
  have hr := ev_rob hs hx
  obtain ⟨_, ad, cap, e1, e0, e2, e3⟩ := hr.now
  cases ad with
  | none => have := e2 rfl; omega
  | some ad =>
    obtain ⟨g, off, sp⟩ := ad
    obtain ⟨rfl, _⟩ := e3 g off sp rfl
    have hb : (0 : Int) ≤ (j : Int) ∧ (j : Int) < (m : Int) := by omega
    refine ⟨.pointer (some ⟨g, off + j * d.size, none⟩), w, ?_, made_plain fun ρ' w' k1 k2 => ⟨rfl, g, _, rfl, fun q hq => ?_⟩⟩
    · simp [Instr.indexAt, ev_x hs hy, asIntOf, run_underlying (tyOf_slice (tysOk_get hT ht)), e1, hb, run_sizeOf (tysOk_get hT hd), addr_add]
      intro hx; omega
    · obtain ⟨_, ad', cap', e1', _, e2', e3'⟩ := hr ρ' w' k1 k2
      rw [e1] at e1'
      cases e1'
      obtain ⟨_, hc⟩ := e3' g off none rfl
      obtain ⟨u, u1, u2⟩ := hc j q hj hq
      exact ⟨u, by rw [Nat.add_assoc]; exact u1, u2⟩
theorem snd_ia_row (hT : TysOk C.P C.tys) {o : Oper} {t e e' : TypeId} {x y : Operand} {d : TyD} {m s sb k b : Nat} {kk : IntKind} {n : Int} {z : List Value} {u : Bool} {α : Type} {mk : α → Nat → Leaf} {Z : Nat → α} (hg : o.guard = none) (ho : o.op = .indexAddr t x y) (ht : tg C.tys t = some ⟨.slice e, s, sb, z⟩)
    (hd : tg C.tys e = some d) (hy : ev st y = .v (.c (.x (.int kk n)))) (hx : ev st x = .v (.c (.row b))) (hb : og st.own b = some (.rw k e' u α mk Z m)) (h : guardB (Nat.beq k d.size) (Idx n m fun j => K ⟨.v (.c (.rl b k j 0)), none⟩)) : ∃ r, K r ∧ PureOp C ops st o r := by
  obtain ⟨h1, h2⟩ := guardB_out h
  obtain rfl := Nat.eq_of_beq_eq_true h1
  obtain ⟨j, rfl, hj, hk⟩ := h2.get
  refine ⟨_, hk, pure_run hg (fun ρ => Instr.indexAt t (ρ x) (ρ y)) (fun ρ => by simp [execOp, ho]) fun F ρ a w _ hs => ?_⟩
  have hr : a.eval x = ρ b := (ev_rob hs hx).now.2.2
  rcases hs.own b _ hb with ⟨_, h⟩ | ⟨g, cap, c, q1, _⟩
  · omega
  · have hbd : (0 : Int) ≤ (j : Int) ∧ (j : Int) < (m : Int) := by omega
    refine ⟨.pointer (some ⟨g, j * d.size, none⟩), w, ?_, made_plain fun ρ' w' k1 k2 => ⟨rfl, ?_⟩⟩
    · simp [Instr.indexAt, ev_x hs hy, asIntOf, run_underlying (tyOf_slice (tysOk_get hT ht)), hr, q1, hbd, run_sizeOf (tysOk_get hT hd), addr_add]
      intro hx; omega
    · show _ = locV (ρ' b) (j * d.size + 0)
      rw [k1 b (by rw [hb]; rfl), q1, locV_sl]
      rfl
theorem rs_val {V : Value → Prop} {b k l m n k' : Nat} {e : TypeId} {u : Bool} {α : Type} {mk : α → Nat → Leaf} {Z : Nat → α} {x : Operand} (hs : SatE F ρ st a w) (hb : og st.own b = some (.rw k' e u α mk Z n)) (hx : ev st x = .v (.c (.rs b k l m V))) :
    ∃ g cap, ρ b = .slice (some ⟨g, 0, none⟩) n cap ∧ a.eval x = .slice (some ⟨g, l * k, none⟩) m (cap - l) ∧ 1 ≤ m ∧ l + m ≤ n ∧ n ≤ cap := by
  obtain ⟨_, h1, h2, h3, _⟩ := (ev_rob hs hx).now
  rcases hs.own b _ hb with ⟨q, rfl⟩ | ⟨g, cap, c, q1, q2, q3, _⟩
  · rw [q] at h3
    change l + m ≤ 0 at h3
    omega
  · rw [q1] at h1 h3
    exact ⟨g, cap, q1, h1, h2, h3, q3⟩
theorem snd_ia_rs {V : Value → Prop} (hT : TysOk C.P C.tys) {o : Oper} {t e e' : TypeId} {x y : Operand} {d : TyD} {m l n0 s sb k k' b : Nat} {kk : IntKind} {n : Int} {z : List Value} {u : Bool} {α : Type} {mk : α → Nat → Leaf} {Z : Nat → α} (hg : o.guard = none) (ho : o.op = .indexAddr t x y) (ht : tg C.tys t = some ⟨.slice e, s, sb, z⟩)
    (hd : tg C.tys e = some d) (hy : ev st y = .v (.c (.x (.int kk n)))) (hx : ev st x = .v (.c (.rs b k l m V))) (hb : og st.own b = some (.rw k' e' u α mk Z n0)) (h : guardB (Nat.beq k d.size && Nat.beq k' k) (Idx n m fun j => K ⟨.v (.c (.rl b k (l + j) 0)), none⟩)) : ∃ r, K r ∧ PureOp C ops st o r := by
  obtain ⟨h1, h2⟩ := guardB_out h
  rw [Bool.and_eq_true] at h1
  obtain rfl := Nat.eq_of_beq_eq_true h1.1
  obtain ⟨j, rfl, hj, hk⟩ := h2.get
  refine ⟨_, hk, pure_run hg (fun ρ => Instr.indexAt t (ρ x) (ρ y)) (fun ρ => by simp [execOp, ho]) fun F ρ a w _ hs => ?_⟩
  obtain ⟨g, cap, q1, q2, q3, q4, q5⟩ := rs_val hs hb hx
  have hbd : (0 : Int) ≤ (j : Int) ∧ (j : Int) < (m : Int) := by omega
  refine ⟨.pointer (some ⟨g, l * d.size + j * d.size, none⟩), w, ?_, made_plain fun ρ' w' k1 k2 => ⟨rfl, ?_⟩⟩
  · simp [Instr.indexAt, ev_x hs hy, asIntOf, run_underlying (tyOf_slice (tysOk_get hT ht)), q2, hbd, run_sizeOf (tysOk_get hT hd), addr_add]
    intro hx; omega
  · show _ = locV (ρ' b) ((l + j) * d.size + 0)
    rw [k1 b (by rw [hb]; rfl), q1, locV_sl, Nat.add_zero, Nat.add_mul]
theorem snd_ia_arr (hT : TysOk C.P C.tys) {o : Oper} {t e : TypeId} {x y : Operand} {d : TyD} {m s sb b q : Nat} {kk : IntKind} {n : Int} {z : List Value} {ls : List Leaf} (hg : o.guard = none) (ho : o.op = .indexAddr t x y) (ht : tg C.tys t = some ⟨.arr m e, s, sb, z⟩)
    (hd : tg C.tys e = some d) (hy : ev st y = .v (.c (.x (.int kk n)))) (hx : ev st x = .v (.c (.loc b q))) (hb : og st.own b = some (.st ls)) (h : Idx n m fun j => K ⟨.v (.c (.loc b (q + j * d.size))), none⟩) : ∃ r, K r ∧ PureOp C ops st o r := by
  obtain ⟨j, rfl, hj, hk⟩ := h.get
  refine ⟨_, hk, pure_run hg (fun ρ => Instr.indexAt t (ρ x) (ρ y)) (fun ρ => by simp [execOp, ho]) fun F ρ a w _ hs => ?_⟩
  obtain ⟨g, hgr⟩ := own_st_ptr hs hb
  have e1 : a.eval x = .pointer (some ⟨g, q, none⟩) := by rw [ev_loc hs hx, hgr, locV_ptr]
  have hbd : (0 : Int) ≤ (j : Int) ∧ (j : Int) < (m : Int) := by omega
  refine ⟨.pointer (some ⟨g, q + j * d.size, none⟩), w, ?_, made_plain fun ρ' w' k1 k2 => ⟨rfl, ?_⟩⟩
  · simp [Instr.indexAt, Instr.sureAddr, ev_x hs hy, asIntOf, run_underlying (tyOf_arr (tysOk_get hT ht)), e1, hbd, run_sizeOf (tysOk_get hT hd), addr_add]
    intro hx; omega
  · show _ = locV (ρ' b) (q + j * d.size)
    rw [k1 b (by rw [hb]; rfl), hgr, locV_ptr]
theorem snd_ia_arp (hT : TysOk C.P C.tys) {o : Oper} {t e : TypeId} {x y : Operand} {d : TyD} {m s sb k : Nat} {f : Nat → Leaf} {kk : IntKind} {n : Int} {z : List Value} (hg : o.guard = none) (ho : o.op = .indexAddr t x y) (ht : tg C.tys t = some ⟨.arr m e, s, sb, z⟩)
    (hd : tg C.tys e = some d) (hy : ev st y = .v (.c (.x (.int kk n)))) (hx : ev st x = .v (.c (.ptr k f))) (h : guardB (Nat.ble (m * d.size) k) (Idx n m fun j => K ⟨.v (.c (.ptr d.size fun q => f (j * d.size + q))), none⟩)) : ∃ r, K r ∧ PureOp C ops st o r := by
  obtain ⟨h1, h2⟩ := guardB_out h
  have hle := Nat.le_of_ble_eq_true h1
  obtain ⟨j, rfl, hj, hk⟩ := h2.get
  have hjs : j * d.size + d.size ≤ m * d.size := by rw [← Nat.succ_mul]; exact Nat.mul_le_mul_right _ hj
  refine ⟨_, hk, pure_run hg (fun ρ => Instr.indexAt t (ρ x) (ρ y)) (fun ρ => by simp [execOp, ho]) fun F ρ a w _ hs => ?_⟩
  have hr := ev_rob hs hx
  obtain ⟨_, g, q, e1, _⟩ := hr.now
  have hbd : (0 : Int) ≤ (j : Int) ∧ (j : Int) < (m : Int) := by omega
  refine ⟨.pointer (some ⟨g, q + j * d.size, none⟩), w, ?_, made_plain fun ρ' w' k1 k2 => ⟨rfl, g, q + j * d.size, rfl, fun i hi => ?_⟩⟩
  · simp [Instr.indexAt, Instr.sureAddr, ev_x hs hy, asIntOf, run_underlying (tyOf_arr (tysOk_get hT ht)), e1, hbd, run_sizeOf (tysOk_get hT hd), addr_add]
    intro hx; omega
  · obtain ⟨_, g', q', e', h'⟩ := hr ρ' w' k1 k2
    rw [e1] at e'
    cases e'
    obtain ⟨u, u1, u2⟩ := h' (j * d.size + i) (by omega)
    exact ⟨u, by rw [Nat.add_assoc]; exact u1, u2⟩
theorem bound_run {P : Program} {k : IntKind} {l y : Nat} {code : BoundsCode} (w : World) (h : l ≤ y) : (Instr.sliceBound (.int k l) y code).run P w = .ok l w := by
  have hb : (0 : Int) ≤ (l : Int) ∧ (l : Int) ≤ (y : Int) := by omega
  simp [Instr.sliceBound, asIntOf, hb]
theorem snd_slice (hT : TysOk C.P C.tys) {o : Oper} {t e : TypeId} {x : Operand} {lo hi : Option Operand} {d : TyD} {n s sb k : Nat} {z : List Value} {α : Type} {mk : α → Nat → Leaf} {Z : Nat → α} (hg : o.guard = none) (ho : o.op = .slice t x lo hi none) (ht : tg C.tys t = some ⟨.slice e, s, sb, z⟩)
    (hd : tg C.tys e = some d) (hx : ev st x = .v (.c (.sl k α mk Z n))) (h : guardB (Nat.beq k d.size) (SlOb (lo.map (ev st)) (hi.map (ev st)) n fun l h => K ⟨.v (.c (.sl k α mk (shiftZ α Z l) (h - l))), none⟩)) : ∃ r, K r ∧ PureOp C ops st o r := by
  obtain ⟨h1, h2⟩ := guardB_out h
  obtain rfl := Nat.eq_of_beq_eq_true h1
  obtain ⟨l, h, hl, hh, hlh, hhn, hk⟩ := h2.w
  refine ⟨_, hk, pure_run hg (fun ρ => Instr.sliceAt t (ρ x) (lo.map ρ) (hi.map ρ) none) (fun ρ => by simp [execOp, ho]) fun F ρ a w _ hs => ?_⟩
  have hr := ev_rob hs hx
  obtain ⟨_, ad, cap, e1, e0, e2, e3⟩ := hr.now
  have hu := run_underlying (P := C.P) (tyOf_slice (tysOk_get hT ht))
  have hl' : (match lo.map a.eval with
      | some v => Instr.sliceBound v h (if (none : Option Value).isSome then .slice3C else .sliceB)
      | none => pure 0 : Sem Nat).run C.P w = .ok l w := by
    rcases hl with ⟨q, rfl⟩ | ⟨kk, q⟩
    · cases lo with
      | none => rfl
      | some y => cases q
    · cases lo with
      | none => cases q
      | some y =>
        have := ev_x hs (Option.some.inj q)
        simp only [Option.map_some, this]
        exact bound_run w hlh
  have hh' : (match hi.map a.eval with
      | some v => Instr.sliceBound v cap .sliceAcap
      | none => pure n : Sem Nat).run C.P w = .ok h w := by
    rcases hh with ⟨q, rfl⟩ | ⟨kk, q⟩
    · cases hi with
      | none => rfl
      | some y => cases q
    · cases hi with
      | none => cases q
      | some y =>
        have := ev_x hs (Option.some.inj q)
        simp only [Option.map_some, this]
        exact bound_run w (by omega)
  have hb : (Instr.sliceBounds true n cap (lo.map a.eval) (hi.map a.eval) none).run C.P w = .ok (l, h, cap) w := by
    unfold Instr.sliceBounds
    cases hi with
    | none =>
      simp at hh'
      subst hh'
      simp
      cases lo with
      | none => simp at hl' ⊢; exact hl'
      | some y => simp at hl' ⊢; simp [hl']
    | some y' =>
      simp at hh'
      simp [hh']
      cases lo with
      | none => simp at hl' ⊢; exact hl'
      | some y => simp at hl' ⊢; simp [hl']
  refine ⟨.slice (if cap = l then ad else ad.map (·.add (l * d.size))) (h - l) (cap - l), w, ?_, made_plain fun ρ' w' k1 k2 => ⟨rfl, _, _, rfl, by omega, ?_, ?_⟩⟩
  · simp [Instr.sliceAt, Instr.slice, hu, e1, hb, run_sizeOf (tysOk_get hT hd)]
  · intro q
    cases ad with
    | none => have := e2 rfl; omega
    | some ad => split at q <;> cases q
  · intro g off sp q
    cases ad with
    | none => split at q <;> cases q
    | some ad =>
      obtain ⟨g0, off0, sp0⟩ := ad
      obtain ⟨rfl, _⟩ := e3 g0 off0 sp0 rfl
      obtain ⟨_, ad', cap', e1', _, e2', e3'⟩ := hr ρ' w' k1 k2
      rw [e1] at e1'
      cases e1'
      obtain ⟨_, hc⟩ := e3' g0 off0 none rfl
      by_cases hcl : cap = l
      · rw [if_pos hcl] at q
        cases q
        exact ⟨rfl, fun i j hi hj => by omega⟩
      · rw [if_neg hcl] at q
        simp [addr_add] at q
        obtain ⟨rfl, rfl, rfl⟩ := q
        refine ⟨rfl, fun i j hi hj => ?_⟩
        obtain ⟨u, u1, u2⟩ := hc (l + i) j (by omega) hj
        exact ⟨u, by rw [show off0 + l * d.size + (i * d.size + j) = off0 + ((l + i) * d.size + j) by rw [Nat.add_mul]; omega]; exact u1, u2⟩
theorem snd_slice_row (hT : TysOk C.P C.tys) {o : Oper} {t e e' : TypeId} {x : Operand} {lo hi : Option Operand} {d : TyD} {n s sb k b : Nat} {z : List Value} {u : Bool} {α : Type} {mk : α → Nat → Leaf} {Z : Nat → α} (hg : o.guard = none) (ho : o.op = .slice t x lo hi none) (ht : tg C.tys t = some ⟨.slice e, s, sb, z⟩)
    (hd : tg C.tys e = some d) (hx : ev st x = .v (.c (.row b))) (hb : og st.own b = some (.rw k e' u α mk Z n)) (h : guardB (Nat.beq k d.size) (SlOb (lo.map (ev st)) (hi.map (ev st)) n fun l h => Ob (l < h) (K ⟨.v (.c (.rs b k l (h - l) fun _ => True)), none⟩))) : ∃ r, K r ∧ PureOp C ops st o r := by
  obtain ⟨h1, h2⟩ := guardB_out h
  obtain rfl := Nat.eq_of_beq_eq_true h1
  obtain ⟨l, h, hl, hh, hlh, hhn, ⟨hlt, hk⟩⟩ := h2.w
  refine ⟨_, hk, pure_run hg (fun ρ => Instr.sliceAt t (ρ x) (lo.map ρ) (hi.map ρ) none) (fun ρ => by simp [execOp, ho]) fun F ρ a w _ hs => ?_⟩
  have hr : a.eval x = ρ b := (ev_rob hs hx).now.2.2
  have hu := run_underlying (P := C.P) (tyOf_slice (tysOk_get hT ht))
  rcases hs.own b _ hb with ⟨_, h0⟩ | ⟨g, cap, c, q1, _, q3, _⟩
  · omega
  have e1 : a.eval x = .slice (some ⟨g, 0, none⟩) n cap := hr.trans q1
  have hl' : (match lo.map a.eval with
      | some v => Instr.sliceBound v h (if (none : Option Value).isSome then .slice3C else .sliceB)
      | none => pure 0 : Sem Nat).run C.P w = .ok l w := by
    rcases hl with ⟨q, rfl⟩ | ⟨kk, q⟩
    · cases lo with
      | none => rfl
      | some y => cases q
    · cases lo with
      | none => cases q
      | some y =>
        have := ev_x hs (Option.some.inj q)
        simp only [Option.map_some, this]
        exact bound_run w hlh
  have hh' : (match hi.map a.eval with
      | some v => Instr.sliceBound v cap .sliceAcap
      | none => pure n : Sem Nat).run C.P w = .ok h w := by
    rcases hh with ⟨q, rfl⟩ | ⟨kk, q⟩
    · cases hi with
      | none => rfl
      | some y => cases q
    · cases hi with
      | none => cases q
      | some y =>
        have := ev_x hs (Option.some.inj q)
        simp only [Option.map_some, this]
        exact bound_run w (by omega)
  have hbs : (Instr.sliceBounds true n cap (lo.map a.eval) (hi.map a.eval) none).run C.P w = .ok (l, h, cap) w := by
    unfold Instr.sliceBounds
    cases hi with
    | none =>
      simp at hh'
      subst hh'
      simp
      cases lo with
      | none => simp at hl' ⊢; exact hl'
      | some y => simp at hl' ⊢; simp [hl']
    | some y' =>
      simp at hh'
      simp [hh']
      cases lo with
      | none => simp at hl' ⊢; exact hl'
      | some y => simp at hl' ⊢; simp [hl']
  have hcl : ¬ cap = l := by omega
  refine ⟨.slice (some ⟨g, l * d.size, none⟩) (h - l) (cap - l), w, ?_, made_plain fun ρ' w' k1 k2 => ⟨rfl, ?_⟩⟩
  · simp [Instr.sliceAt, Instr.slice, hu, e1, hbs, run_sizeOf (tysOk_get hT hd), hcl, addr_add]
  · show _ = subV (ρ' b) (l * d.size) l (h - l) ∧ 1 ≤ h - l ∧ l + (h - l) ≤ lenV (ρ' b) ∧ True
    rw [k1 b (by rw [hb]; rfl), q1]
    exact ⟨rfl, by omega, show l + (h - l) ≤ n by omega, trivial⟩
end
end Go.VG

/- States in letters: the operations that leave what was there as it was are met (third part), and all together. -/
namespace Go.VG
open Go Go.RowKit
section
variable {C : Ctx} {ops : Array Oper} {st : St} {K : Res → Prop} {F : Fix} {ρ : Nat → Value} {a : Act} {w : World}

theorem made_x {u : Value} (hu : u.oneCell' = true) : Made F ρ st ⟨.v (.c (.x u)), none⟩ u w w := made_plain (rob_x hu)
theorem snd_bin_int {o : Oper} {op : BinOp} {t t' : TypeId} {x y : Operand} {k k' : IntKind} {n m : Int} (hg : o.guard = none) (ho : o.op = .binOp op t x y t') (hx : ev st x = .v (.c (.x (.int k n)))) (hy : ev st y = .v (.c (.x (.int k' m))))
    (h : arith2 k k' op n m fun r => K ⟨r, none⟩) : ∃ r, K r ∧ PureOp C ops st o r := by
  obtain ⟨u, hk, hu, hr⟩ := run_arith2 h
  exact ⟨_, hk, pure_run hg (fun ρ => do eqGuard op t x y (ρ x) (ρ y); binOp op t (ρ x) (ρ y)) (fun ρ => by simp [execOp, ho]) fun F ρ a w _ hs => ⟨u, w, by rw [ev_x hs hx, ev_x hs hy]; exact hr _ _ _ _ _, made_x hu⟩⟩
theorem tyOf_bool {P : Program} {t : TypeId} {s b : Nat} {z : List Value} (h : tyOf P t = some ⟨.bool, s, b, z⟩) : P.underlying t = some .bool := by
  obtain ⟨i, u, z, h1, h2, h3, h4⟩ := tyOf_spec h
  cases u <;> simp [kOf] at h4
  rw [h2]
theorem snd_bin_bool (hT : TysOk C.P C.tys) {o : Oper} {op : BinOp} {t t' : TypeId} {s sb : Nat} {z : List Value} {x y : Operand} {n m : Bool} (hg : o.guard = none) (ho : o.op = .binOp op t x y t') (ht : tg C.tys t = some ⟨.bool, s, sb, z⟩) (hx : ev st x = .v (.c (.x (.bool n)))) (hy : ev st y = .v (.c (.x (.bool m))))
    (h : logic op n m fun r => K ⟨r, none⟩) : ∃ r, K r ∧ PureOp C ops st o r := by
  have hu := tyOf_bool (tysOk_get hT ht)
  have heq : ∀ w, (Op.equal t (.bool n) (.bool m)).run C.P w = .ok (n == m) w := fun w => by
    unfold Op.equal Op.maxDepth Op.equalIn
    simp [run_underlying hu]
  cases op <;> simp only [logic] at h
  all_goals first | exact h.elim | skip
  · exact ⟨_, h, pure_run hg (fun ρ => do eqGuard .eql t x y (ρ x) (ρ y); binOp .eql t (ρ x) (ρ y)) (fun ρ => by simp [execOp, ho]) fun F ρ a w _ hs => ⟨_, w, by rw [ev_x hs hx, ev_x hs hy]; simp [eqGuard, binOp, heq], made_x rfl⟩⟩
  · exact ⟨_, h, pure_run hg (fun ρ => do eqGuard .neq t x y (ρ x) (ρ y); binOp .neq t (ρ x) (ρ y)) (fun ρ => by simp [execOp, ho]) fun F ρ a w _ hs => ⟨_, w, by rw [ev_x hs hx, ev_x hs hy]; simp [eqGuard, binOp, heq], made_x rfl⟩⟩
theorem snd_not {o : Oper} {t : TypeId} {x : Operand} {n : Bool} (hg : o.guard = none) (ho : o.op = .unOp .not t x) (hx : ev st x = .v (.c (.x (.bool n)))) (h : K ⟨bool (!n), none⟩) : ∃ r, K r ∧ PureOp C ops st o r :=
  ⟨_, h, pure_run hg (fun ρ => Op.unary .not (ρ x)) (fun ρ => by simp [execOp, ho]) fun F ρ a w _ hs => ⟨_, w, by rw [ev_x hs hx]; rfl, made_x rfl⟩⟩
theorem snd_neg {o : Oper} {t : TypeId} {x : Operand} {k : IntKind} {n : Int} (hg : o.guard = none) (ho : o.op = .unOp .neg t x) (hx : ev st x = .v (.c (.x (.int k n)))) (h : WrOb k (-n) fun z => K ⟨int k z, none⟩) : ∃ r, K r ∧ PureOp C ops st o r := by
  obtain ⟨z, e, hk⟩ := h.w
  exact ⟨_, hk, pure_run hg (fun ρ => Op.unary .neg (ρ x)) (fun ρ => by simp [execOp, ho]) fun F ρ a w _ hs => ⟨_, w, by
    rw [ev_x hs hx]
    simp only [Op.unary, Op.intArith, Sem.run_pure, Int.zero_sub, e], made_x rfl⟩⟩
theorem snd_convert (hT : TysOk C.P C.tys) {o : Oper} {s t : TypeId} {x : Operand} {k k' k'' : IntKind} {n : Int} {s1 b1 s2 b2 : Nat} {z1 z2 : List Value} (hg : o.guard = none) (ho : o.op = .convert s t x) (hs : tg C.tys s = some ⟨.int k', s1, b1, z1⟩) (ht : tg C.tys t = some ⟨.int k, s2, b2, z2⟩)
    (hx : ev st x = .v (.c (.x (.int k'' n)))) (h : WrOb k n fun z => K ⟨int k z, none⟩) : ∃ r, K r ∧ PureOp C ops st o r := by
  obtain ⟨z, e, hk⟩ := h.w
  exact ⟨_, hk, pure_run hg (fun ρ => convert s t (ρ x)) (fun ρ => by simp [execOp, ho]) fun F ρ a w _ hse => ⟨_, w, by
    rw [ev_x hse hx]
    simp [convert, run_underlying (tyOf_int (tysOk_get hT hs)), run_underlying (tyOf_int (tysOk_get hT ht)), Conv.intToInt, e], made_x rfl⟩⟩
theorem TupR.get {R : V1 → Value → Prop} : ∀ {ts : List V1} {vs : List Value} {i : Nat} {t : V1}, TupR R ts vs → ts[i]? = some t → ∃ v, vs[i]? = some v ∧ R t v
  | [], [], _, _, _, h => by simp at h
  | _ :: _, v :: _, 0, _, ⟨h1, _⟩, h => by simp at h; subst h; exact ⟨v, rfl, h1⟩
  | _ :: _, _ :: _, i + 1, _, ⟨_, h2⟩, h => by simpa using h2.get (i := i) (by simpa using h)
  | [], _ :: _, _, _, h, _ => h.elim
  | _ :: _, [], _, _, h, _ => h.elim
theorem snd_nilck {o : Oper} {x : Operand} {l : Leaf} (hg : o.guard = none) (ho : o.op = .nilCheck x) (hx : ev st x = .v (.c l)) (hp : ∀ (F : Fix) (ρ : Nat → Value) (a : Act) (w : World), SatE F ρ st a w → ∃ ad, a.eval x = .pointer (some ad)) (h : K ⟨.v (.c l), none⟩) : ∃ r, K r ∧ PureOp C ops st o r :=
  ⟨_, h, pure_value hg fun F ρ a w _ hs => by
    obtain ⟨ad, e⟩ := hp F ρ a w hs
    exact ⟨.pointer (some ad), w, by simp [execOp, ho, e], made_plain (e ▸ ev_rob hs hx)⟩⟩
theorem snd_extract {o : Oper} {x : Operand} {i : Nat} {ts : List V1} {t : V1} (hg : o.guard = none) (ho : o.op = .extract x i) (hx : ev st x = .tup ts) (hi : ts[i]? = some t) (h : K ⟨.v t, none⟩) : ∃ r, K r ∧ PureOp C ops st o r :=
  ⟨_, h, pure_run hg (fun ρ => Instr.extract (ρ x) i) (fun ρ => by simp [execOp, ho]) fun F ρ a w _ hs => by
    have hr := ev_rob hs hx
    obtain ⟨vs, e, hv⟩ := hr.now
    obtain ⟨v, v1, v2⟩ := hv.get hi
    refine ⟨v, w, by rw [e]; simp [Instr.extract, v1], made_plain fun ρ' w' k1 k2 => ?_⟩
    obtain ⟨vs', e', hv'⟩ := hr ρ' w' k1 k2
    rw [e] at e'
    have : vs' = vs := by simpa using e'.symm
    subst this
    obtain ⟨v', v1', v2'⟩ := hv'.get hi
    rw [v1] at v1'
    cases v1'
    exact v2'⟩
theorem snd_len (hT : TysOk C.P C.tys) {o : Oper} {args : Array Operand} {ts : Array TypeId} {x : Operand} {t e : TypeId} {s sb n : Nat} {z : List Value} (hg : o.guard = none) (ho : o.op = .call ⟨.builtin .len, args, ts⟩) (ha : args.toList = [x]) (hts : ts.toList = [t]) (ht : tg C.tys t = some ⟨.slice e, s, sb, z⟩)
    (hx : ∀ (F : Fix) (ρ : Nat → Value) (a : Act) (w : World), SatE F ρ st a w → ∃ ad cap, a.eval x = .slice ad n cap) (h : K ⟨int .i64 n, none⟩) : ∃ r, K r ∧ PureOp C ops st o r :=
  ⟨_, h, pure_value hg fun F ρ a w _ hs => by
    obtain ⟨ad, cap, e1⟩ := hx F ρ a w hs
    have ha' : args = #[x] := Array.ext' ha
    have ht' : ts = #[t] := Array.ext' hts
    refine ⟨.int .i64 n, w, ?_, made_x rfl⟩
    simp [execOp, ho, ha', ht', resolve, invoke, builtin, Builtin.len_, run_underlying (tyOf_slice (tysOk_get hT ht)), e1, goInt]⟩
theorem asI_spec {v : AV} {b : Int} (h : asI v = some b) : ∃ k, v = .v (.c (.x (.int k b))) := by
  unfold asI at h
  split at h
  · cases h; exact ⟨_, rfl⟩
  · cases h
theorem fold_mm {P : Program} {k : IntKind} {w : World} (mx : Bool) : ∀ {l : List AV} {us : List Value} {a m : Int}, foldMM mx a l = some m → ArgsR (AV.at ρ w) l us → (us.foldlM (bif mx then Builtin.max2 else Builtin.min2) (.int k a)).run P w = .ok (.int k m) w
  | [], [], a, m, h, _ => by simp [foldMM] at h; subst h; rfl
  | v :: l, u :: us, a, m, h, ⟨h1, h2⟩ => by
    rw [foldMM] at h
    cases hv : asI v with
    | none => rw [hv] at h; cases h
    | some b =>
      rw [hv] at h
      obtain ⟨k', rfl⟩ := asI_spec hv
      have hu : u = .int k' b := h1.2
      subst hu
      have := fold_mm (P := P) (k := k) mx h h2
      cases mx with
      | true =>
        simp only [cond_true, List.foldlM_cons, Builtin.max2, Sem.run_bind, Sem.run_pure, Result.andThen_ok, gt_iff_lt] at this ⊢
        exact this
      | false =>
        simp only [cond_false, List.foldlM_cons, Builtin.min2, Sem.run_bind, Sem.run_pure, Result.andThen_ok] at this ⊢
        exact this
  | [], _ :: _, _, _, _, h => h.elim
  | _ :: _, [], _, _, _, h => h.elim
theorem args_at (hs : SatE F ρ st a w) : ∀ (l : List Operand), Rob F ρ st.own w fun ρ' w' => ArgsR (AV.at ρ' w') (l.map (ev st)) (l.map a.eval)
  | [] => fun _ _ _ _ => trivial
  | x :: l => fun ρ' w' k1 k2 => ⟨hs.ev x ρ' w' k1 k2, args_at hs l ρ' w' k1 k2⟩
theorem snd_max {o : Oper} {args : Array Operand} {ts : Array TypeId} {x : Operand} {l : List Operand} {k : IntKind} {n m : Int} (hg : o.guard = none) (ho : o.op = .call ⟨.builtin .max, args, ts⟩) (ha : args.toList = x :: l) (hx : ev st x = .v (.c (.x (.int k n)))) (hm : foldMM true n (l.map (ev st)) = some m) (h : K ⟨int k m, none⟩) : ∃ r, K r ∧ PureOp C ops st o r :=
  ⟨_, h, pure_value hg fun F ρ a w _ hs => by
    have ha' : args = (x :: l).toArray := Array.ext' ha
    have := fold_mm (P := C.P) (k := k) (w := w) true hm (args_at hs l).now
    simp only [cond_true] at this
    refine ⟨.int k m, w, ?_, made_x rfl⟩
    simp [execOp, ho, ha', resolve, invoke, builtin, Builtin.max_, ev_x hs hx, this]⟩
theorem snd_min {o : Oper} {args : Array Operand} {ts : Array TypeId} {x : Operand} {l : List Operand} {k : IntKind} {n m : Int} (hg : o.guard = none) (ho : o.op = .call ⟨.builtin .min, args, ts⟩) (ha : args.toList = x :: l) (hx : ev st x = .v (.c (.x (.int k n)))) (hm : foldMM false n (l.map (ev st)) = some m) (h : K ⟨int k m, none⟩) : ∃ r, K r ∧ PureOp C ops st o r :=
  ⟨_, h, pure_value hg fun F ρ a w _ hs => by
    have ha' : args = (x :: l).toArray := Array.ext' ha
    have := fold_mm (P := C.P) (k := k) (w := w) false hm (args_at hs l).now
    simp only [cond_false] at this
    refine ⟨.int k m, w, ?_, made_x rfl⟩
    simp [execOp, ho, ha', resolve, invoke, builtin, Builtin.min_, ev_x hs hx, this]⟩
theorem leaves_cells {av : AV} {ls : List Leaf} {u : Value} (hl : leaves av = some ls) (h : av.at ρ w u) : CellsR (Leaf.at ρ w) ls u.cells.toList := by
  cases av with
  | any => cases hl
  | tup _ => cases hl
  | v v1 =>
    cases v1 with
    | c l =>
      cases hl
      have h1 : u.oneCell' = true := h.1
      rw [oneCell_eq h1]
      exact ⟨⟨h1, h.2⟩, trivial⟩
    | agg l =>
      cases hl
      obtain ⟨cs, e, hc⟩ := h
      rw [e]
      exact hc
theorem fold_set (vs : List Value) (off : Nat) : ∀ (cs : Array Value) (i : Nat), off + i + vs.length ≤ cs.size →
    (vs.zipIdx i).foldl (fun (cs : Array Value) (p : Value × Nat) => cs.setIfInBounds (off + p.2) p.1) cs = (cs.toList.take (off + i) ++ vs ++ cs.toList.drop (off + i + vs.length)).toArray := by
  induction vs with
  | nil => intro cs i _; simp
  | cons v vs ih =>
    intro cs i h
    simp only [List.zipIdx_cons, List.foldl_cons]
    rw [ih _ _ (by simp at h ⊢; omega)]
    congr 1
    have e := list_seg_step cs.toList (off + i) v vs (by simp at h ⊢; omega)
    simpa [Array.toList_setIfInBounds, Nat.add_assoc] using e
theorem fill_at {size : List (Nat × Nat)} : ∀ {parts : List (Nat × AV)} {ls ls' : List Leaf} {us : List (Nat × Value)} {cs : List Value}, fillL size ls parts = some ls' → parts.map (·.1) = us.map (·.1) → ArgsR (AV.at ρ w) (parts.map (·.2)) (us.map (·.2)) → CellsR (Leaf.at ρ w) ls cs →
    ∃ cs' : List Value, Instr.fill (fun i => size[i]?) cs.toArray us = some cs'.toArray ∧ CellsR (Leaf.at ρ w) ls' cs'
  | [], ls, ls', [], cs, h, _, _, hc => by simp [fillL] at h; subst h; exact ⟨cs, rfl, hc⟩
  | (i, v) :: parts, ls, ls', (i', u) :: us, cs, h, hi, ⟨h1, h2⟩, hc => by
    simp only [List.map_cons, List.cons.injEq] at hi
    obtain ⟨rfl, hi⟩ := hi
    rw [fillL] at h
    cases hsz : size[i]? with
    | none => rw [hsz] at h; cases h
    | some os =>
      obtain ⟨off, sz⟩ := os
      cases hlv : leaves v with
      | none => rw [hsz, hlv] at h; cases h
      | some l =>
        rw [hsz, hlv] at h
        simp only at h
        cases hb : (Nat.beq l.length sz && Nat.ble (off + sz) ls.length) with
        | false => rw [hb] at h; cases h
        | true =>
          rw [hb] at h
          rw [Bool.and_eq_true] at hb
          have hlen := Nat.eq_of_beq_eq_true hb.1
          have hle := Nat.le_of_ble_eq_true hb.2
          have hcu := leaves_cells hlv h1
          have hul : u.cells.toList.length = l.length := hcu.len
          have hcl := hc.len
          have hts : u.cells.toList.length = u.cells.size := Array.length_toList
          have hcs : u.cells.size = sz := by omega
          obtain ⟨cs', q1, q2⟩ := fill_at (cs := cs.take off ++ u.cells.toList ++ cs.drop (off + sz)) h hi h2 (cellsR_append (cellsR_append (cellsR_take off hc) hcu) (cellsR_drop (off + sz) hc))
          refine ⟨cs', ?_, q2⟩
          rw [Instr.fill, hsz]
          simp only
          rw [if_neg (by
            rw [hcs]
            simp only [List.size_toArray]
            simp
            omega)]
          have e := fold_set u.cells.toList off cs.toArray 0 (by simp only [List.size_toArray]; omega)
          simp only [Nat.add_zero, hul] at e
          rw [show u.cells.zipIdx.foldl (fun (cs : Array Value) (p : Value × Nat) => cs.setIfInBounds (off + p.2) p.1) cs.toArray = (u.cells.toList.zipIdx 0).foldl (fun (cs : Array Value) (p : Value × Nat) => cs.setIfInBounds (off + p.2) p.1) cs.toArray by
            rw [← Array.foldl_toList, Array.toList_zipIdx]]
          rw [e]
          rw [hlen]
          exact q1
  | [], _, _, _ :: _, _, _, hi, _, _ => by simp at hi
  | _ :: _, _, _, [], _, _, hi, _, _ => by simp at hi

theorem sizes_at (hT : TysOk C.P C.tys) : ∀ {fs : List (Nat × TypeId)} {sz : List (Nat × Nat)} {fa : List Field} {w : World}, sizesOf C.tys fs = some sz → fa.map (fun f => (f.offset, f.type)) = fs → (fa.mapM fun f => (do pure (f.offset, ← sizeOf f.type) : Sem (Nat × Nat))).run C.P w = .ok sz w
  | [], sz, [], w, h, _ => by simp [sizesOf] at h; subst h; rfl
  | (off, t) :: fs, sz, f :: fa, w, h, hf => by
    simp only [List.map_cons, List.cons.injEq, Prod.mk.injEq] at hf
    obtain ⟨⟨rfl, rfl⟩, hf⟩ := hf
    rw [sizesOf] at h
    cases ht : tg C.tys f.type with
    | none => rw [ht] at h; cases h
    | some d =>
      cases hr : sizesOf C.tys fs with
      | none => rw [ht, hr] at h; cases h
      | some r =>
        rw [ht, hr] at h
        cases h
        have ih := sizes_at hT (w := w) hr hf
        simp only [List.mapM_cons, Sem.run_bind, run_sizeOf (tysOk_get hT ht), Result.andThen_ok, Sem.run_pure]
        rw [ih]
        rfl
  | [], _, _ :: _, _, _, h => by simp at h
  | _ :: _, _, [], _, _, h => by simp at h
theorem parts_at (hs : SatE F ρ st a w) : ∀ (l : List (Nat × Operand)), Rob F ρ st.own w fun ρ' w' => ArgsR (AV.at ρ' w') ((l.map fun p => (p.1, ev st p.2)).map (·.2)) ((l.map fun p => (p.1, a.eval p.2)).map (·.2))
  | [] => fun _ _ _ _ => trivial
  | x :: l => fun ρ' w' k1 k2 => ⟨hs.ev x.2 ρ' w' k1 k2, parts_at hs l ρ' w' k1 k2⟩
theorem snd_build {o : Oper} {t : TypeId} {parts : Array (Nat × Operand)} {sz : List (Nat × Nat)} {z : List Value} {ls : List Leaf} (hg : o.guard = none) (ho : o.op = .build t parts)
    (hf : fillL sz (z.map .x) (parts.toList.map fun p => (p.1, ev st p.2)) = some ls) (h : guardB (z.all Value.oneCell') (K ⟨.v (.agg ls), none⟩))
    (hrun : ∀ (w : World) (ps : Array (Nat × Value)) (cells : Array Value), Instr.fill (fun i => sz[i]?) z.toArray ps.toList = some cells → (Instr.build t ps).run C.P w = .ok (.agg cells) w) : ∃ r, K r ∧ PureOp C ops st o r := by
  obtain ⟨h1, h2⟩ := guardB_out h
  refine ⟨_, h2, pure_run hg (fun ρ => Instr.build t (parts.map fun (i, x) => (i, ρ x))) (fun ρ => by simp [execOp, ho]) fun F ρ a w _ hs => ?_⟩
  have key : ∀ ρ' w', Agr st.own ρ ρ' → Ext (Mt F ρ st.own) w w' → ∃ cs' : List Value, Instr.fill (fun i => sz[i]?) z.toArray (parts.toList.map fun p => (p.1, a.eval p.2)) = some cs'.toArray ∧ CellsR (Leaf.at ρ' w') ls cs' := fun ρ' w' k1 k2 =>
    fill_at hf (by simp [Function.comp_def]) (parts_at hs parts.toList ρ' w' k1 k2) (cells_x h1)
  obtain ⟨cs, c1, c2⟩ := key ρ w (Agr.refl _ _) (Ext.refl _ _)
  have e : (parts.map fun (x : Nat × Operand) => (x.1, a.eval x.2)).toList = parts.toList.map fun p => (p.1, a.eval p.2) := by simp
  refine ⟨.agg cs.toArray, w, hrun w _ _ (by rw [e]; exact c1), made_plain fun ρ' w' k1 k2 => ?_⟩
  obtain ⟨cs', c1', c2'⟩ := key ρ' w' k1 k2
  rw [c1] at c1'
  have : cs = cs' := by simpa using c1'
  subst this
  exact ⟨cs, rfl, c2'⟩
theorem run_build_struct (hT : TysOk C.P C.tys) {t : TypeId} {fs : List (Nat × TypeId)} {s sb : Nat} {z : List Value} {sz : List (Nat × Nat)} (ht : tg C.tys t = some ⟨.struct fs, s, sb, z⟩) (hsz : sizesOf C.tys fs = some sz) (w : World) (ps : Array (Nat × Value)) (cells : Array Value)
    (hf : Instr.fill (fun i => sz[i]?) z.toArray ps.toList = some cells) : (Instr.build t ps).run C.P w = .ok (.agg cells) w := by
  obtain ⟨fa, u1, u2⟩ := tyOf_struct (tysOk_get hT ht)
  obtain ⟨zv, z1, z2⟩ := run_zero (tysOk_get hT ht) w
  have hz : zv.cells = z.toArray := Array.ext' z2
  have hp := sizes_at hT (w := w) hsz u2
  have hp' : (fa.mapM fun f => (do pure (f.offset, ← sizeOf f.type) : Sem (Nat × Nat))).run C.P w = .ok sz.toArray w := by
    rw [← Array.toArray_toList (xs := fa), List.mapM_toArray, Sem.run_map, hp]
    rfl
  unfold Instr.build
  simp only [Sem.run_bind, z1, Result.andThen_ok, run_underlying u1, hp', hz]
  have : (fun (i : Nat) => sz.toArray[i]?) = fun i => sz[i]? := by funext i; simp
  rw [this, hf]
  rfl
theorem fill_mono {m sz : Nat} (l : List (Nat × Value)) (cs : Array Value) (out : Array Value) (h : Instr.fill (fun i => ((List.range m).map fun i => (i * sz, sz))[i]?) cs l = some out) : Instr.fill (fun i => some (i * sz, sz)) cs l = some out := by
  induction l generalizing cs out with
  | nil => exact h
  | cons p l ih =>
    obtain ⟨i, v⟩ := p
    rw [Instr.fill] at h ⊢
    rw [List.getElem?_map] at h
    by_cases hi : i < m
    · rw [List.getElem?_range hi] at h
      simp only [Option.map_some] at h
      simp only
      split at h
      · cases h
      · next hn => rw [if_neg hn]; exact ih _ _ h
    · rw [List.getElem?_eq_none (by simpa using Nat.le_of_not_lt hi)] at h
      cases h
theorem run_build_arr (hT : TysOk C.P C.tys) {t e : TypeId} {m s sb : Nat} {z : List Value} {d : TyD} (ht : tg C.tys t = some ⟨.arr m e, s, sb, z⟩) (hd : tg C.tys e = some d) (w : World) (ps : Array (Nat × Value)) (cells : Array Value)
    (hf : Instr.fill (fun i => ((List.range m).map fun i => (i * d.size, d.size))[i]?) z.toArray ps.toList = some cells) : (Instr.build t ps).run C.P w = .ok (.agg cells) w := by
  obtain ⟨zv, z1, z2⟩ := run_zero (tysOk_get hT ht) w
  have hz : zv.cells = z.toArray := Array.ext' z2
  unfold Instr.build
  simp only [Sem.run_bind, z1, Result.andThen_ok, run_underlying (tyOf_arr (tysOk_get hT ht)), run_sizeOf (tysOk_get hT hd), hz]
  rw [fill_mono _ _ _ hf]
  rfl
theorem caps_spec : ∀ {l : List AV} {bs : List Nat}, capsOf l = some bs → l = bs.map fun b => .v (.c (.loc b 0))
  | [], bs, h => by simp [capsOf] at h; subst h; rfl
  | x :: l, bs, h => by
    unfold capsOf at h
    split at h
    · next h' => cases h'
    · next b l' h' =>
      simp only [List.cons.injEq] at h'
      obtain ⟨rfl, rfl⟩ := h'
      cases hc : capsOf l with
      | none => rw [hc] at h; cases h
      | some bs' =>
        rw [hc] at h
        cases h
        rw [caps_spec hc]
        rfl
    · cases h
theorem snd_makeFunc {o : Oper} {f : FuncId} {first caps : Array Operand} {bs : List Nat} (hg : o.guard = none) (ho : o.op = .makeFunc (.func f) first caps) (hc : capsOf (caps.toList.map (ev st)) = some bs) (h : guardB (first.toList.isEmpty && bs.all fun b => (og st.own b).isSome) (K ⟨.v (.c (.fn f bs)), none⟩)) : ∃ r, K r ∧ PureOp C ops st o r := by
  obtain ⟨h1, h2⟩ := guardB_out h
  rw [Bool.and_eq_true] at h1
  obtain ⟨h1, h3⟩ := h1
  have hf : first = #[] := Array.ext' (by simpa using h1)
  refine ⟨_, h2, pure_run hg (fun ρ => Instr.makeFunc (.func f) (first.map ρ) (caps.map ρ)) (fun ρ => by simp [execOp, ho]) fun F ρ a w _ hs => ?_⟩
  have hcv : ∀ ρ', Agr st.own ρ ρ' → caps.toList.map a.eval = bs.map fun b => locV (ρ' b) 0 := by
    intro ρ' hagr
    have hsp := caps_spec hc
    have hargs := (args_at hs caps.toList).now
    rw [hsp] at hargs
    revert hargs
    generalize caps.toList.map a.eval = us
    clear hsp hc ho h h1 h2
    induction bs generalizing us with
    | nil => intro h; cases us with
      | nil => rfl
      | cons => exact h.elim
    | cons b bs ih =>
      intro h
      cases us with
      | nil => exact h.elim
      | cons u us =>
        obtain ⟨q1, q2⟩ := h
        simp only [List.all_cons, Bool.and_eq_true] at h3
        rw [List.map_cons, ← ih h3.2 us q2, hagr b h3.1]
        have : u = locV (ρ b) 0 := q1.2
        rw [this]
  refine ⟨.func (.func f) #[] (caps.map a.eval), w, by simp [Instr.makeFunc, hf], made_plain fun ρ' w' k1 _ => ⟨rfl, ?_⟩⟩
  show _ = Value.func (.func f) #[] (bs.map fun b => locV (ρ' b) 0).toArray
  congr 1
  apply Array.ext'
  simpa using hcv ρ' k1
theorem snd_call {o : Oper} {f : FuncId} {args : Array Operand} {ts : Array TypeId} {fn : Func} (hg : o.guard = none) (ho : o.op = .call ⟨.value (.func f), args, ts⟩) (hf : C.P.funcs[f]? = some fn) (hnm : (fn.name == "runtime.NumGoroutine") = false) (hb : fn.body.isNone = false)
    (h : CallP C st f (args.toList.map (ev st)) K) : ∃ r, K r ∧ PureOp C ops st o r := by
  obtain ⟨r, hk, hc⟩ := h.w
  refine ⟨_, hk, fun F ρ a w Q hG hs => ?_⟩
  have := hc F ρ a w (args.toList.map a.eval) hG hs (args_at hs _)
  unfold opWp
  rw [if_pos (by simp [Region.wanted, hg])]
  left
  unfold Oper.wp
  have e : (execOp a.eval o).run C.P w = .ok (.enter f (args.map a.eval)) w := by
    have hnm' : ¬ fn.name = "runtime.NumGoroutine" := by simpa using hnm
    cases hbd : fn.body with
    | none => rw [hbd] at hb; cases hb
    | some c => simp [execOp, ho, resolve, Act.eval, Deferred.ofValue, invoke, callFunc, hf, hnm', hbd]
  rw [e]
  have e2 : args.map a.eval = (args.toList.map a.eval).toArray := Array.ext' (by simp)
  rw [e2, Oper.upon_enter]
  refine this.mono fun en w' he => ?_
  obtain ⟨v, rfl, q1⟩ := he
  exact ⟨v, rfl, q1⟩
theorem snd_callV {o : Oper} {x : Operand} {args : Array Operand} {ts : Array TypeId} {φ : World → Value → Prop} (hg : o.guard = none) (ho : o.op = .call ⟨.value x, args, ts⟩) (hx : ev st x = .v (.c (.p φ)))
    (h : CallV C st φ (args.toList.map (ev st)) K) : ∃ r, K r ∧ PureOp C ops st o r := by
  obtain ⟨r, hk, hc⟩ := h.w
  refine ⟨_, hk, fun F ρ a w Q hG hs => ?_⟩
  have hr := ev_rob hs hx
  obtain ⟨g, caps, e1, ⟨fn, hf, hnm, hb⟩, this⟩ := hc F ρ a w (args.toList.map a.eval) (a.eval x) hG hs (args_at hs _) (fun ρ' w' k1 k2 => (hr ρ' w' k1 k2).2.2)
  unfold opWp
  rw [if_pos (by simp [Region.wanted, hg])]
  left
  unfold Oper.wp
  have e : (execOp a.eval o).run C.P w = .ok (.enter g (args.map a.eval ++ caps)) w := by
    have hnm' : ¬ fn.name = "runtime.NumGoroutine" := by simpa using hnm
    cases hbd : fn.body with
    | none => rw [hbd] at hb; cases hb
    | some c => simp [execOp, ho, resolve, e1, Deferred.ofValue, invoke, callFunc, hf, hnm', hbd]
  rw [e]
  have e2 : args.map a.eval = (args.toList.map a.eval).toArray := Array.ext' (by simp)
  rw [e2, Oper.upon_enter]
  refine this.mono fun en w' he => ?_
  obtain ⟨v, rfl, q1⟩ := he
  exact ⟨v, rfl, q1⟩
theorem snd_mkFn {o : Oper} {f : FuncId} {first caps : Array Operand} (hg : o.guard = none) (ho : o.op = .makeFunc (.func f) first caps) (h : guardB (first.toList.isEmpty && (caps.toList.map (ev st)).all ptrB) (MkFn C f (caps.toList.map (ev st)) K)) : ∃ r, K r ∧ PureOp C ops st o r := by
  obtain ⟨h1, h2⟩ := guardB_out h
  rw [Bool.and_eq_true] at h1
  obtain ⟨h1, h3⟩ := h1
  have hf : first = #[] := Array.ext' (by simpa using h1)
  obtain ⟨φ, hφ, hk⟩ := h2.w
  refine ⟨_, hk, pure_run hg (fun ρ => Instr.makeFunc (.func f) (first.map ρ) (caps.map ρ)) (fun ρ => by simp [execOp, ho]) fun F ρ a w hG hs => ?_⟩
  refine ⟨.func (.func f) #[] (caps.map a.eval), w, by simp [Instr.makeFunc, hf], made_plain fun ρ' w' k1 k2 => ⟨rfl, rfl, ?_⟩⟩
  have e2 : caps.map a.eval = (caps.toList.map a.eval).toArray := Array.ext' (by simp)
  rw [e2]
  have hargs := args_at hs caps.toList
  refine hφ _ _ (fun w2 hx => hG ▸ hs.gl ρ w2 (Agr.refl _ _) (k2.trans (hx.mono fun _ _ x => x.elim))) fun ρ2 w2 hx => ?_
  have := hargs ρ w2 (Agr.refl _ _) (k2.trans (hx.mono fun _ _ x => x.elim))
  revert this
  generalize caps.toList.map a.eval = us
  generalize caps.toList.map (ev st) = as at h3
  clear hargs hφ e2 h2 h
  induction as generalizing us with
  | nil => cases us with
    | nil => exact fun h => h
    | cons => exact fun h => h.elim
  | cons b as ih =>
    cases us with
    | nil => exact fun h => h.elim
    | cons u us =>
      rintro ⟨q1, q2⟩
      simp only [List.all_cons, Bool.and_eq_true] at h3
      refine ⟨?_, ih us h3.2 q2⟩
      have hb := h3.1
      unfold ptrB at hb
      split at hb
      · exact q1
      · cases hb
theorem snd_eq_agg {o : Oper} {op : BinOp} {t t' : TypeId} {x y : Operand} {ls ls' : List Leaf} (hg : o.guard = none) (ho : o.op = .binOp op t x y t') (hx : ev st x = .v (.agg ls)) (hy : ev st y = .v (.agg ls'))
    (h : EqOb C op t ls ls' fun b => K ⟨bool b, none⟩) (hop : op = .eql ∨ op = .neq) : ∃ r, K r ∧ PureOp C ops st o r := by
  obtain ⟨b, hk, hb⟩ := h.w
  have hrun : ∀ (F : Fix) (ρ : Nat → Value) (a : Act) (w : World), SatE F ρ st a w → (do eqGuard op t x y (a.eval x) (a.eval y); binOp op t (a.eval x) (a.eval y) : Sem Value).run C.P w = .ok (.bool b) w := fun F ρ a w hs => by
    obtain ⟨cs, e1, c1⟩ := (ev_rob hs hx).now
    obtain ⟨cs', e2, c2⟩ := (ev_rob hs hy).now
    rw [e1, e2]
    exact hb x y ρ cs cs' w c1 c2
  rcases hop with rfl | rfl
  · exact ⟨_, hk, pure_run hg (fun ρ => do eqGuard .eql t x y (ρ x) (ρ y); binOp .eql t (ρ x) (ρ y)) (fun ρ => by simp [execOp, ho]) fun F ρ a w _ hs => ⟨_, w, hrun F ρ a w hs, made_x rfl⟩⟩
  · exact ⟨_, hk, pure_run hg (fun ρ => do eqGuard .neq t x y (ρ x) (ρ y); binOp .neq t (ρ x) (ρ y)) (fun ρ => by simp [execOp, ho]) fun F ρ a w _ hs => ⟨_, w, hrun F ρ a w hs, made_x rfl⟩⟩
theorem snd_nil (hT : TysOk C.P C.tys) {o : Oper} {op : BinOp} {t t' e : TypeId} {s sb : Nat} {z : List Value} {x y : Operand} (b : Bool) {c : Bool} (hg : o.guard = none) (ho : o.op = .binOp op t x y t') (ht : tg C.tys t = some ⟨.slice e, s, sb, z⟩) (hy : ev st y = .v (.c (.x (.slice none 0 0))))
    (hx : ∀ (F : Fix) (ρ : Nat → Value) (a : Act) (w : World), SatE F ρ st a w → ∃ ad n c, a.eval x = .slice ad n c ∧ ad.isNone = b) (hop : (op = .eql ∧ b = c) ∨ (op = .neq ∧ (!b) = c)) (hk : K ⟨bool c, none⟩) : ∃ r, K r ∧ PureOp C ops st o r := by
  have hu := tyOf_slice (tysOk_get hT ht)
  have heq : ∀ (ad : Option Addr) (n c : Nat) w, (Op.equal t (.slice ad n c) (.slice none 0 0)).run C.P w = .ok ad.isNone w := fun ad n c w => by
    unfold Op.equal Op.maxDepth Op.equalIn
    cases ad <;> simp [run_underlying hu]
  rcases hop with ⟨rfl, rfl⟩ | ⟨rfl, rfl⟩
  · exact ⟨_, hk, pure_run hg (fun ρ => do eqGuard .eql t x y (ρ x) (ρ y); binOp .eql t (ρ x) (ρ y)) (fun ρ => by simp [execOp, ho]) fun F ρ a w _ hs => by
      obtain ⟨ad, n, c, e1, e2⟩ := hx F ρ a w hs
      exact ⟨_, w, by rw [e1, ev_x hs hy]; simp [eqGuard, binOp, heq, e2], made_x rfl⟩⟩
  · exact ⟨_, hk, pure_run hg (fun ρ => do eqGuard .neq t x y (ρ x) (ρ y); binOp .neq t (ρ x) (ρ y)) (fun ρ => by simp [execOp, ho]) fun F ρ a w _ hs => by
      obtain ⟨ad, n, c, e1, e2⟩ := hx F ρ a w hs
      exact ⟨_, w, by rw [e1, ev_x hs hy]; simp [eqGuard, binOp, heq, e2], made_x rfl⟩⟩
theorem sl_some {x : Operand} {k n : Nat} {α : Type} {mk : α → Nat → Leaf} {Z : Nat → α} (hx : ev st x = .v (.c (.sl k α mk Z n))) (hn : 1 ≤ n) (hs : SatE F ρ st a w) : ∃ ad n c, a.eval x = .slice ad n c ∧ ad.isNone = false := by
  obtain ⟨_, ad, cap, e, _, h1, _⟩ := (ev_rob hs hx).now
  cases ad with
  | none => have := h1 rfl; omega
  | some ad => exact ⟨_, _, _, e, rfl⟩
theorem x_none {x : Operand} (hx : ev st x = .v (.c (.x (.slice none 0 0)))) (hs : SatE F ρ st a w) : ∃ ad n c, a.eval x = .slice ad n c ∧ ad.isNone = true := ⟨_, _, _, ev_x hs hx, rfl⟩
end
end Go.VG

/- States in letters: all operations that leave what was there as it was. -/
namespace Go.VG
open Go Go.RowKit
section
variable {C : Ctx} {ops : Array Oper} {st : St} {K : Res → Prop} {F : Fix} {ρ : Nat → Value} {a : Act} {w : World}

theorem made_get (z : Array Value) (n i j : Nat) (hj : j < z.size) (hi : i < n) : (madeCells z (n * z.size))[i * z.size + j]? = z[j]? := by
  have hlt : i * z.size + j < n * z.size := by
    have : (i + 1) * z.size ≤ n * z.size := Nat.mul_le_mul_right _ hi
    rw [Nat.add_mul] at this
    omega
  unfold madeCells
  simp [hlt, Nat.mul_add_mod_self_right, Nat.mod_eq_of_lt hj]
  rw [Array.getElem?_eq_getElem hj, getElem!_pos z j hj]
theorem snd_makeSlice (hT : TysOk C.P C.tys) {o : Oper} {t e : TypeId} {x y : Operand} {d : TyD} {s sb : Nat} {n n' : Int} {z : List Value} (hg : o.guard = none) (ho : o.op = .makeSlice t x y) (ht : tg C.tys t = some ⟨.slice e, s, sb, z⟩) (hd : tg C.tys e = some d)
    (hx : ev st x = .v (.c (.x (.int .i64 n)))) (hy : ev st y = .v (.c (.x (.int .i64 n'))))
    (h : guardB (Nat.beq d.zero.length d.size && Nat.ble 1 d.size && d.zero.all nou && d.zero.all Value.oneCell' && (og st.own st.nx).isNone)
          (Ob (n' = n ∧ n ≤ 1099511627776 ∧ d.bytes ≤ 256) (MkRow d.size d.zero n fun α mk Z m => K ⟨.v (.c (.row st.nx)), some (st.nx, .rw d.size e false α mk Z m)⟩))) : ∃ r, K r ∧ PureOp C ops st o r := by
  obtain ⟨h1, h2⟩ := guardB_out h
  simp only [Bool.and_eq_true] at h1
  obtain ⟨⟨⟨⟨b1, b2⟩, b3⟩, b4⟩, b5⟩ := h1
  have hzl := Nat.eq_of_beq_eq_true b1
  have hz1 := Nat.le_of_ble_eq_true b2
  obtain ⟨rfl, hn, hby⟩ := h2.a
  obtain ⟨α, mk, Z, m, rfl, hmk, hk⟩ := h2.b.w
  refine ⟨_, hk, pure_run hg (fun ρ => Instr.makeSlice t (ρ x) (ρ y)) (fun ρ => by simp [execOp, ho]) fun F ρ a w _ hs => ?_⟩
  obtain ⟨i, u, zv, i1, i2, i3, i4⟩ := tyOf_spec (tysOk_get hT hd)
  have hzs : zv.cells.size = d.size := by
    rw [← hzl, i4]
    exact Array.length_toList.symm
  have his : i.size = zv.cells.size := by rw [hzs, i4]
  have hib : i.bytes = d.bytes := by rw [i4]
  have hzc : zv.cells.toList = d.zero := by rw [i4]
  have hr := run_make (P := C.P) w t e i zv (tyOf_slice (tysOk_get hT ht)) i1 i3 .i64 .i64 m m (by omega) (Int.le_refl _) (by
    rw [hib]
    have h1 : d.bytes * m ≤ 256 * 1099511627776 := Nat.mul_le_mul hby (by omega)
    have h2 : ((d.bytes * m : Nat) : Int) ≤ 281474976710656 := by omega
    rwa [Int.natCast_mul] at h2) (by omega)
  simp only [Int.toNat_natCast, his] at hr
  have hbel : Below w.heap.size w (w.alloc (.cells (madeCells zv.cells (m * zv.cells.size)) e)) := (Below.refl _ _).alloc (Nat.le_refl _) _
  have hget : ∀ i j, i < m → j < d.size → (madeCells zv.cells (m * zv.cells.size))[i * d.size + j]? = d.zero[j]? := fun i j hi hj => by
    rw [← hzs, made_get _ _ _ _ (by omega) hi, ← hzc]
    exact Array.getElem?_toList.symm
  refine ⟨.slice (some ⟨w.heap.size, 0, none⟩) m m, _, by rw [ev_x hs hx, ev_x hs hy]; exact hr, hbel, by simpa using b5, .slice (some ⟨w.heap.size, 0, none⟩) m m, fun g hg => by cases hg; exact Nat.le_refl _, fun ρ' w' k1 k2 => ⟨rfl, rfl, ?_⟩, ?_⟩
  · rw [k1 st.nx (by rw [og_cons, if_pos rfl]; rfl), updρ_at]
  · refine .inr ⟨w.heap.size, m, _, rfl, heap_alloc_new w _, Nat.le_refl _, by unfold maxLen; omega, by rw [size_madeCells, hzs], ?_, fun i j hi hj => ?_⟩
    · exact trivial
    · have hj' : j < d.zero.length := by omega
      refine ⟨by rw [hmk i j hi hj]; rfl, d.zero[j], by rw [hget i j hi hj]; exact List.getElem?_eq_getElem hj', List.all_eq_true.1 b4 _ (List.getElem_mem hj'), fun ρ' w' _ _ => ?_⟩
      rw [hmk i j hi hj]
      show _ = d.zero.getD j undef
      simp [hj']

theorem pureL_at {l : Leaf} (h : pureL l = true) {ρ ρ' : Nat → Value} {w : World} {v : Value} (hl : l.at ρ w v) : l.at ρ' w v := by
  cases l <;> first | exact hl | cases h
theorem zerosL_len (z : List Value) : ∀ n, (zerosL z n).length = n * z.length
  | 0 => by simp [zerosL]
  | n + 1 => by rw [zerosL, List.length_append, List.length_map, zerosL_len z n, Nat.add_mul]; omega
theorem zerosL_get (z : List Value) : ∀ (n q : Nat) (l : Leaf), (zerosL z n)[q]? = some l → ∃ u, z[q % z.length]? = some u ∧ l = .x u
  | 0, q, l, h => by simp [zerosL] at h
  | n + 1, q, l, h => by
    rw [zerosL] at h
    by_cases hq : q < z.length
    · rw [List.getElem?_append_left (by simpa using hq), List.getElem?_map] at h
      rw [Nat.mod_eq_of_lt hq]
      cases hz : z[q]? with
      | none => rw [hz] at h; cases h
      | some u => rw [hz] at h; cases h; exact ⟨u, rfl, rfl⟩
    · rw [List.getElem?_append_right (by simpa using hq), List.length_map] at h
      obtain ⟨u, h1, h2⟩ := zerosL_get z n _ l h
      rw [← Nat.mod_eq_sub_mod (by omega)] at h1
      exact ⟨u, h1, h2⟩
theorem zeros_at {z : Array Value} (h1 : z.toList.all Value.oneCell' = true) (n : Nat) (hz : 0 < z.size) {ρ : Nat → Value} {w : World} : CellsR (Leaf.at ρ w) (zerosL z.toList n) (madeCells z (n * z.size)).toList :=
  CellsR.of (by rw [Array.length_toList, size_madeCells, zerosL_len, Array.length_toList]) fun i l u q1 q2 => by
    obtain ⟨u', z1, rfl⟩ := zerosL_get _ _ _ _ q1
    have hlt : i < n * z.size := by
      rcases Nat.lt_or_ge i (n * z.size) with h | h
      · exact h
      · rw [List.getElem?_eq_none (by rw [Array.length_toList, size_madeCells]; exact h)] at q2; cases q2
    have hg := made_get z n (i / z.size) (i % z.size) (Nat.mod_lt _ hz) ((Nat.div_lt_iff_lt_mul hz).2 hlt)
    rw [Nat.div_add_mod'] at hg
    rw [Array.getElem?_toList, hg] at q2
    rw [Array.length_toList, Array.getElem?_toList, q2] at z1
    cases z1
    exact ⟨List.all_eq_true.1 h1 _ (by have := List.mem_of_getElem? (Array.getElem?_toList ▸ q2); exact this), rfl⟩
theorem snd_buildSlice (hT : TysOk C.P C.tys) {o : Oper} {t te : TypeId} {n s sb : Nat} {z : List Value} {parts : Array (Nat × Operand)} {d : TyD} {ls : List Leaf} (hg : o.guard = none) (ho : o.op = .buildSlice t n parts) (ht : tg C.tys t = some ⟨.slice te, s, sb, z⟩) (hd : tg C.tys te = some d)
    (hf : fillL ((List.range n).map fun i => (i * d.size, d.size)) (zerosL d.zero n) (parts.toList.map fun p => (p.1, ev st p.2)) = some ls)
    (h : guardB (d.zero.all Value.oneCell' && Nat.beq d.zero.length d.size && Nat.ble (n * d.size) 16777216 && Nat.ble 1 d.size && Nat.ble 1 n && ls.all pureL) (K ⟨.v (.c (.sl d.size Nat (fun i j => getL ls (i * d.size + j)) id n)), none⟩)) : ∃ r, K r ∧ PureOp C ops st o r := by
  obtain ⟨hb, h2⟩ := guardB_out h
  simp only [Bool.and_eq_true] at hb
  obtain ⟨⟨⟨⟨⟨b1, b2⟩, b3⟩, b4⟩, b5⟩, b6⟩ := hb
  have hzl := Nat.eq_of_beq_eq_true b2
  have hle := Nat.le_of_ble_eq_true b3
  have h1d := Nat.le_of_ble_eq_true b4
  have h1n := Nat.le_of_ble_eq_true b5
  refine ⟨_, h2, pure_run hg (fun ρ => Instr.buildSlice t n (parts.map fun (i, x) => (i, ρ x))) (fun ρ => by simp [execOp, ho]) fun F ρ a w _ hs => ?_⟩
  obtain ⟨zv, z1, z2⟩ := run_zero (tysOk_get hT hd) w
  have hzs : zv.cells.size = d.size := by rw [← hzl, ← z2]; exact Array.length_toList.symm
  have hzc := zeros_at (ρ := ρ) (w := w) (z := zv.cells) (by rw [z2]; exact b1) n (by omega)
  have key : ∀ ρ' w', Agr st.own ρ ρ' → Ext (Mt F ρ st.own) w w' → ∃ cs' : List Value, Instr.fill (fun i => ((List.range n).map fun i => (i * d.size, d.size))[i]?) (madeCells zv.cells (n * d.size)) (parts.toList.map fun p => (p.1, a.eval p.2)) = some cs'.toArray ∧ CellsR (Leaf.at ρ' w') ls cs' := fun ρ' w' k1 k2 => by
    have hz0 := zeros_at (ρ := ρ') (w := w') (z := zv.cells) (by rw [z2]; exact b1) n (by omega)
    rw [z2] at hz0
    have := fill_at hf (us := parts.toList.map fun p => (p.1, a.eval p.2)) (by simp [Function.comp_def]) (parts_at hs parts.toList ρ' w' k1 k2) hz0
    simpa [hzs] using this
  obtain ⟨cs, c1, c2⟩ := key ρ w (Agr.refl _ _) (Ext.refl _ _)
  have hcl := c2.len
  have e : (parts.map fun (x : Nat × Operand) => (x.1, a.eval x.2)).toList = parts.toList.map fun p => (p.1, a.eval p.2) := by simp
  have hmono : Instr.fill (fun i => some (i * d.size, d.size)) (madeCells zv.cells (n * d.size)) (parts.toList.map fun p => (p.1, a.eval p.2)) = some cs.toArray := fill_mono _ _ _ c1
  have hlen : ls.length = n * d.size := by
    have : ∀ (ps : List (Nat × AV)) (l0 l1 : List Leaf), fillL ((List.range n).map fun i => (i * d.size, d.size)) l0 ps = some l1 → l1.length = l0.length := by
      intro ps
      induction ps with
      | nil => intro l0 l1 q; simp [fillL] at q; rw [q]
      | cons p ps ih =>
        intro l0 l1 q
        obtain ⟨i, av⟩ := p
        rw [fillL] at q
        split at q
        · next off sz l q1 q2 =>
          cases hb : (Nat.beq l.length sz && Nat.ble (off + sz) l0.length) with
          | false => rw [hb] at q; cases q
          | true =>
            rw [hb] at q
            rw [Bool.and_eq_true] at hb
            have e1 := Nat.eq_of_beq_eq_true hb.1
            have e2 := Nat.le_of_ble_eq_true hb.2
            have := ih _ _ q
            rw [this]
            simp
            omega
        · cases q
    rw [this _ _ _ hf, zerosL_len, hzl]
  have hbel : Below w.heap.size w (w.alloc (.cells cs.toArray te)) := (Below.refl _ _).alloc (Nat.le_refl _) _
  refine ⟨.slice (some ⟨w.heap.size, 0, none⟩) n n, w.alloc (.cells cs.toArray te), ?_, hbel, fun ρ' w'' k1 k2 => ⟨rfl, some ⟨w.heap.size, 0, none⟩, n, rfl, Nat.le_refl _, (fun x => by cases x), ?_⟩⟩
  · have hn0 : ¬ n * d.size = 0 := by
      have := Nat.mul_le_mul h1n h1d
      omega
    have hn1 : ¬ 2 ^ 24 < n * d.size := by omega
    have hm : (Array.range (n * d.size)).map (zv.cells[· % zv.cells.size]!) = madeCells zv.cells (n * d.size) := rfl
    unfold Instr.buildSlice
    simp only [Sem.run_bind, run_underlying (tyOf_slice (tysOk_get hT ht)), Result.andThen_ok, run_sizeOf (tysOk_get hT hd), hn0, if_false, z1, Sem.run_pure, hm, e, hmono, gt_iff_lt, hn1, newRow, run_newObj]
    rfl
  · rintro g off sp q
    cases q
    refine ⟨rfl, fun i j hi hj => ?_⟩
    have hnm : ¬ Mt F ρ st.own w.heap.size := fun x => by have := hs.mt_lt x; omega
    have hblk : w''.heap[w.heap.size]? = some (.cells cs.toArray te) := by
      rw [k2.keep _ (by simp) hnm]
      exact heap_alloc_new w _
    obtain ⟨cs', c1', c2'⟩ := key ρ' w'' k1 ((Ext.of_below hbel).trans k2)
    rw [c1] at c1'
    have : cs = cs' := by simpa using c1'
    subst this
    have hlt : i * d.size + j < cs.length := by
      have : (i + 1) * d.size ≤ n * d.size := Nat.mul_le_mul_right _ hi
      rw [Nat.add_mul] at this
      omega
    obtain ⟨l, l1, l2, l3⟩ := c2'.get (List.getElem?_eq_getElem hlt)
    refine ⟨cs[i * d.size + j], by simp only [World.cell?, hblk]; simp [hlt], l2, fun r => ?_⟩
    have hgl : getL ls (i * d.size + j) = l := by unfold getL; rw [l1]
    show (getL ls (i * d.size + j)).at r w'' _
    rw [hgl]
    exact pureL_at (List.all_eq_true.1 b6 _ (List.mem_of_getElem? l1)) l3
theorem snd_nilRow (hT : TysOk C.P C.tys) {o : Oper} {t e : TypeId} {d : TyD} {parts : Array (Nat × Operand)} {s sb : Nat} {z : List Value} (hg : o.guard = none) (ho : o.op = .buildSlice t 0 parts) (ht : tg C.tys t = some ⟨.slice e, s, sb, z⟩) (hd : tg C.tys e = some d)
    (h : guardB (parts.toList.isEmpty && Nat.beq d.zero.length d.size && Nat.ble 1 d.size && (og st.own st.nx).isNone) (MkRow d.size d.zero 0 fun α mk Z m => K ⟨.v (.c (.row st.nx)), some (st.nx, .rw d.size e false α mk Z m)⟩)) : ∃ r, K r ∧ PureOp C ops st o r := by
  obtain ⟨h1, h2⟩ := guardB_out h
  simp only [Bool.and_eq_true] at h1
  obtain ⟨⟨⟨b1, b2⟩, b3⟩, b5⟩ := h1
  obtain ⟨α, mk, Z, m, h0, hmk, hk⟩ := h2.w
  obtain rfl : m = 0 := by omega
  have hp : parts = #[] := Array.ext' (by simpa using b1)
  subst hp
  refine ⟨_, hk, pure_run hg (fun ρ => Instr.buildSlice t 0 #[]) (fun ρ => by simp [execOp, ho]) fun F ρ a w _ hs => ?_⟩
  have hbel : Below w.heap.size w (w.alloc (.cells #[] e)) := (Below.refl _ _).alloc (Nat.le_refl _) _
  refine ⟨.slice (some ⟨w.heap.size, 0, none⟩) 0 0, w.alloc (.cells #[] e), ?_, hbel, by simpa using b5, .slice (some ⟨w.heap.size, 0, none⟩) 0 0, fun g hg => by cases hg; exact Nat.le_refl _, fun ρ' w' k1 k2 => ⟨rfl, rfl, ?_⟩, ?_⟩
  · unfold Instr.buildSlice
    simp [Sem.run_bind, run_underlying (tyOf_slice (tysOk_get hT ht)), run_sizeOf (tysOk_get hT hd), Instr.fill, newRow]
    have hr : (Array.range 0).map (fun _ => (default : Value)) = #[] := by simp
    rw [hr]
  · rw [k1 st.nx (by rw [og_cons, if_pos rfl]; rfl), updρ_at]
  · exact .inr ⟨w.heap.size, 0, _, rfl, heap_alloc_new w _, Nat.le_refl _, Nat.zero_le _, by simp, trivial, fun i j hi => absurd hi (Nat.not_lt_zero _)⟩
theorem vc1_sound (hT : TysOk C.P C.tys) {o : Oper} (hg : o.guard = none) (h : vc1 C st o.op K) : ∃ r, K r ∧ PureOp C ops st o r := by
  generalize hop : o.op = op at h
  unfold vc1 at h
  split at h
  · exact snd_move hg (.inl hop) h
  · exact snd_move hg (.inr hop) h
  · split at h
    · next hc => exact snd_pick hg hop hc h
    · exact h.elim
  · split at h
    · next hd => exact snd_alloc hT hg hop hd h
    · exact h.elim
  · split at h
    · next hl => exact snd_box hg hop hl h
    · exact h.elim
  · split at h
    · exact h.elim
    · next d hd =>
      split at h
      · next hx =>
        split at h
        · next hb => exact snd_load_loc hT hg hop hd hx hb h
        · exact h.elim
      · next hx => exact snd_load_ptr hT hg hop hd hx h
      · next hx =>
        split at h
        · next hb => exact snd_load_rl hT hg hop hd hx hb h
        · exact h.elim
      · exact h.elim
  · split at h
    · next ht =>
      split at h
      · next hf =>
        split at h
        · next d hd =>
          obtain ⟨h0, h⟩ := guardB_out h
          have h0 : d.size ≠ 0 := fun x => by rw [x] at h0; cases h0
          split at h
          · next hx =>
            split at h
            · next hb => exact fa_loc hT hg hop ht hf hd h0 hb hx h
            · exact h.elim
          · next hx =>
            obtain ⟨h1, h⟩ := guardB_out h
            exact fa_ptr hT hg hop ht hf hd h0 (Nat.le_of_ble_eq_true h1) hx h
          · next hx =>
            split at h
            · next hb => exact fa_rl hT hg hop ht hf hd h0 hb h.a hx h.b
            · exact h.elim
          · exact h.elim
        · exact h.elim
      · exact h.elim
    · exact h.elim
  · split at h
    · next ht =>
      split at h
      · next hf =>
        split at h
        · next hd =>
          split at h
          · next hx => exact snd_field hT hg hop ht hf hd hx h
          · exact h.elim
        · exact h.elim
      · exact h.elim
    · exact h.elim
  · split at h
    · next ht =>
      split at h
      · next hd hi =>
        split at h
        · next hx => exact snd_ia_sl hT hg hop ht hd hi hx h
        · next hx =>
          split at h
          · next hb => exact snd_ia_row hT hg hop ht hd hi hx hb h
          · exact h.elim
        · next hx =>
          split at h
          · next hb => exact snd_ia_rs hT hg hop ht hd hi hx hb h
          · exact h.elim
        · exact h.elim
      · exact h.elim
    · next ht =>
      split at h
      · next hd hi =>
        split at h
        · next hx =>
          split at h
          · next hb => exact snd_ia_arr hT hg hop ht hd hi hx hb h
          · exact h.elim
        · next hx => exact snd_ia_arp hT hg hop ht hd hi hx h
        · exact h.elim
      · exact h.elim
    · exact h.elim
  · split at h
    · next ht =>
      split at h
      · next hd hi =>
        split at h
        · next hx => exact snd_index hT hg hop ht hd hi hx h
        · exact h.elim
      · exact h.elim
    · exact h.elim
  · split at h
    · next ht =>
      split at h
      · next hd =>
        split at h
        · next hx => exact snd_slice hT hg hop ht hd hx h
        · next hx =>
          split at h
          · next hb => exact snd_slice_row hT hg hop ht hd hx hb h
          · exact h.elim
        · exact h.elim
      · exact h.elim
    · exact h.elim
  · split at h
    · next hx hy => exact snd_bin_int hg hop hx hy h
    · next hx hy =>
      split at h
      · next ht => exact snd_bin_bool hT hg hop ht hx hy h
      · exact h.elim
    · next hx hy =>
      split at h
      · exact snd_eq_agg hg hop hx hy h (.inl rfl)
      · exact snd_eq_agg hg hop hx hy h (.inr rfl)
      · exact h.elim
    · next hx hy =>
      split at h
      · next ht => exact snd_nil hT false hg hop ht hy (fun F ρ a w hs => sl_some hx h.a hs) (.inl ⟨rfl, rfl⟩) h.b
      · next ht => exact snd_nil hT false hg hop ht hy (fun F ρ a w hs => sl_some hx h.a hs) (.inr ⟨rfl, rfl⟩) h.b
      · exact h.elim
    · next hx hy =>
      split at h
      · next ht => exact snd_nil hT true hg hop ht hy (fun F ρ a w hs => x_none hx hs) (.inl ⟨rfl, rfl⟩) h
      · next ht => exact snd_nil hT true hg hop ht hy (fun F ρ a w hs => x_none hx hs) (.inr ⟨rfl, rfl⟩) h
      · exact h.elim
    · exact h.elim
  · split at h
    · next hx => exact snd_not hg hop hx h
    · next hx => exact snd_neg hg hop hx h
    · exact h.elim
  · split at h
    · next hs ht hx => exact snd_convert hT hg hop hs ht hx h
    · exact h.elim
  · split at h
    · next ht =>
      split at h
      · next hsz =>
        split at h
        · next hf => exact snd_build hg hop hf h (run_build_struct hT ht hsz)
        · exact h.elim
      · exact h.elim
    · next ht =>
      split at h
      · next hd =>
        split at h
        · next hf => exact snd_build hg hop hf h (run_build_arr hT ht hd)
        · exact h.elim
      · exact h.elim
    · exact h.elim
  · split at h
    · next ht =>
      split at h
      · next hd =>
        split at h
        · exact snd_nilRow hT hg hop ht hd h
        · split at h
          · next hf => exact snd_buildSlice hT hg hop ht hd hf h
          · exact h.elim
      · exact h.elim
    · exact h.elim
  · split at h
    · next hx =>
      split at h
      · next hi => exact snd_extract hg hop hx hi h
      · exact h.elim
    · exact h.elim
  · split at h
    · next hc => exact snd_makeFunc hg hop hc h
    · exact snd_mkFn hg hop h
  · split at h
    · next ht =>
      split at h
      · next hd hx hy => exact snd_makeSlice hT hg hop ht hd hx hy h
      · exact h.elim
    · exact h.elim
  · split at h
    · next ha hts =>
      split at h
      · next ht =>
        split at h
        · next hx => exact snd_len hT hg hop ha hts ht (fun F ρ a w hs => by obtain ⟨_, ad, cap, e, _⟩ := (ev_rob hs hx).now; exact ⟨ad, cap, e⟩) h
        · next hx =>
          split at h
          · next hb => exact snd_len hT hg hop ha hts ht (fun F ρ a w hs => by
              have hr := (ev_rob hs hx).now.2.2
              rcases hs.own _ _ hb with ⟨e, rfl⟩ | ⟨g, cap, c, e, _⟩
              · exact ⟨none, 0, hr.trans e⟩
              · exact ⟨_, cap, hr.trans e⟩) h
          · exact h.elim
        · next hx =>
          split at h
          · next hb => exact snd_len hT hg hop ha hts ht (fun F ρ a w hs => by
              obtain ⟨g, cap, _, q, _⟩ := rs_val hs hb hx
              exact ⟨_, _, q⟩) h
          · exact h.elim
        · next hx => exact snd_len hT hg hop ha hts ht (fun F ρ a w hs => ⟨_, _, ev_x hs hx⟩) h
        · exact h.elim
      · exact h.elim
    · exact h.elim
  · split at h
    · next ha =>
      split at h
      · next hx =>
        split at h
        · next hm => exact snd_max hg hop ha hx hm h
        · exact h.elim
      · exact h.elim
    · exact h.elim
  · split at h
    · next ha =>
      split at h
      · next hx =>
        split at h
        · next hm => exact snd_min hg hop ha hx hm h
        · exact h.elim
      · exact h.elim
    · exact h.elim
  · obtain ⟨fn, f1, f2, f3⟩ := h.ok
    exact snd_call hg hop f1 f2 f3 h
  · split at h
    · next hx => exact snd_callV hg hop hx h
    · exact h.elim
  · split at h
    · next hx => exact snd_nilck hg hop hx (fun F ρ a w hs => by obtain ⟨_, g, off, e, _⟩ := (ev_rob hs hx).now; exact ⟨_, e⟩) h
    · next hx =>
      split at h
      · next hb => exact snd_nilck hg hop hx (fun F ρ a w hs => by
          have hr := (ev_rob hs hx).now.2
          obtain ⟨g, c, e, e1, _⟩ := hs.own _ _ hb
          exact ⟨_, hr.trans (by rw [e1]; rfl)⟩) h
      · exact h.elim
    · exact h.elim
  · exact h.elim
end
end Go.VG

