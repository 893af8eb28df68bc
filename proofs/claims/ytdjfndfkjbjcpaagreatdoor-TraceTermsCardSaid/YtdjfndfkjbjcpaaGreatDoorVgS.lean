/- States in letters: functions that write into a part of a row of the caller's. -/
import Derived.Test.YtdjfndfkjbjcpaaGreatDoorPkVgZ
namespace Go.VG
open Go Go.RowKit

structure PlainL (l : Leaf) : Prop where
  h : ∀ (ρ ρ' : Nat → Value) (w w' : World) (v : Value), l.at ρ w v → l.at ρ' w' v
theorem PlainL.x (u : Value) : PlainL (.x u) := ⟨fun _ _ _ _ _ h => h⟩
theorem PlainAv.x (u : Value) : PlainAv (.v (.c (.x u))) := ⟨fun _ _ _ _ _ h => h⟩
def RowAt (w : World) (g k : Nat) (e : TypeId) (α : Type) (mk : α → Nat → Leaf) (Z : Nat → α) (n cap : Nat) : Prop :=
  ∃ c, w.heap[g]? = some (.cells c e (0, 0)) ∧ n ≤ cap ∧ cap ≤ maxLen ∧ c.size = cap * k ∧ ∀ i j, i < n → j < k → pureL (mk (Z i) j) = true ∧ ∃ x, c[i * k + j]? = some x ∧ x.oneCell' = true ∧ ∀ ρ w', (mk (Z i) j).at ρ w' x
structure SpW (C : Ctx) (f : FuncId) (k : Nat) (e : TypeId) (α : Type) (mk : α → Nat → Leaf) (Z Z' : Nat → α) (n l m : Nat) (rest : List AV) (r : AV) : Prop where
  ok : CallOk C.P f
  pl : PlainAv r
  pm : ∀ z j, PlainL (mk z j)
  w : ∀ (w : World) (vs : List Value) (g cap : Nat), 1 ≤ m → l + m ≤ n → RowAt w g k e α mk Z n cap → (∀ w', Ext (fun q => q = g) w w' → C.G w') → (∀ ρ' w', Ext (fun q => q = g) w w' → ArgsR (AV.at ρ' w') rest vs) →
    Calls C.P f (.slice (some ⟨g, l * k, none⟩) m (cap - l) :: vs).toArray w fun en w' => ∃ v, en = .returned v ∧ w'.os = w.os ∧ w'.tape = w.tape ∧ w'.output = w.output ∧ w.heap.size ≤ w'.heap.size ∧ (∀ q, q < w.heap.size → q ≠ g → w'.heap[q]? = w.heap[q]?) ∧ RowAt w' g k e α mk Z' n cap ∧ ∀ ρ, r.at ρ w' v
theorem SpW.callT {C : Ctx} {st : St} {f : FuncId} {k n l m b nt : Nat} {e : TypeId} {α : Type} {mk : α → Nat → Leaf} {Z Z' : Nat → α} {V : Value → Prop} {rest rest' : List AV} {r : AV} {u : Bool} {d : Option Nat} {K : St → Prop} (h : SpW C f k e α mk Z Z' n l m rest' r)
    (hb : og st.own b = some (.rw k e u α mk Z n)) (hd : dstOk nt d = true) (ha : ArgsLe rest rest') (hcl : rest'.all (avB []) = true)
    (hk : K { tm := match d with
      | some d => (d, r) :: st.tm
      | none => st.tm, own := oset st.own b (.rw k e u α mk Z' n), nx := st.nx }) : CallT C nt st f (.v (.c (.rs b k l m V)) :: rest) d K := by
  refine ⟨h.ok, fun F ρ a w vs hG hN hs hargs => ?_⟩
  match vs, hargs with
  | [], hargs => exact hargs.now.elim
  | v0 :: vs, hargs =>
  obtain ⟨⟨_, e0, m1, m2, _⟩, _⟩ := hargs.now
  rcases hs.own b _ hb with ⟨q, rfl⟩ | ⟨g, cap, c, q1, q2, q3, q4, q5, q6, q7⟩
  · rw [q] at m2
    change l + m ≤ 0 at m2
    omega
  rw [q1] at e0 m2
  have hM : Mt F ρ st.own g := .inr ⟨b, by rw [hb]; rfl, by rw [q1]; rfl⟩
  have hX : ∀ w', Ext (fun q => q = g) w w' → Ext (Mt F ρ st.own) w w' := fun w' hx => hx.mono fun q _ e => e ▸ hM
  have hrow : RowAt w g k e α mk Z n cap := ⟨c, q2, q3, q4, q5, fun i j hi hj => by
    obtain ⟨pp, x, x1, x2, x3⟩ := q7 i j hi hj
    exact ⟨pp, x, x1, x2, fun ρ' w' => (h.pm _ _).h ρ ρ' w w' x x3.now⟩⟩
  have hcall := h.w w vs g cap m1 m2 hrow (fun w' hx => hG ▸ hs.gl ρ w' (Agr.refl _ _) (hX w' hx)) (fun ρ' w' hx => argsB_at hcl (ha.args (hargs ρ w' (Agr.refl _ _) (hX w' hx)).2))
  have e1 : v0 = .slice (some ⟨g, l * k, none⟩) m (cap - l) := e0
  rw [e1]
  refine hcall.mono fun en w' ⟨v, he, o1, o2, o3, o4, o5, ⟨c', r1, r2, r3, r4, r5⟩, hr⟩ => ⟨v, _, he, hk, ?_⟩
  have hgl : g < w.heap.size := (Array.getElem?_eq_some_iff.1 q2).1
  have hw1 : ∀ i, (({ w' with heap := w'.heap.setIfInBounds g (.cells c e (0, 0)) } : World).heap)[i]? = if g = i then some (.cells c e (0, 0)) else w'.heap[i]? := fun i => by
    show (w'.heap.setIfInBounds g _)[i]? = _
    rw [Array.getElem?_setIfInBounds]
    by_cases hgi : g = i
    · rw [if_pos hgi, if_pos hgi, if_pos (by omega)]
    · rw [if_neg hgi, if_neg hgi]
  have hb1 : Below w.heap.size w { w' with heap := w'.heap.setIfInBounds g (.cells c e (0, 0)) } := ⟨o1, o2, o3, by show w.heap.size ≤ (w'.heap.setIfInBounds g _).size; rw [Array.size_setIfInBounds]; exact o4, fun q hq => by
    rw [hw1]
    by_cases hgq : g = q
    · rw [if_pos hgq, ← hgq, q2]
    · rw [if_neg hgq, o5 q hq (fun x => hgq x.symm)]⟩
  have hs1 := hs.ext hb1
  have hs2 := hs1.write (b := b) (g := g) (k := .rw k e u α mk Z' n) (w1 := w') (by rw [hb]; rfl) (by rw [q1]; rfl) (by show _ = (w'.heap.setIfInBounds g _).size; rw [Array.size_setIfInBounds]) (fun i hi => by rw [hw1, if_neg (fun x => hi x.symm)]) rfl rfl rfl
    (.inr ⟨g, cap, c', q1, r1, r2, r3, r4, trivial, fun i j hi hj => by
      obtain ⟨pp, x, x1, x2, x3⟩ := r5 i j hi hj
      exact ⟨pp, x, x1, x2, fun ρ' w'' _ _ => x3 ρ' w''⟩⟩)
  cases d with
  | none => exact ⟨ρ, hs2⟩
  | some d => exact ⟨ρ, hs2.put (by rw [hN]; exact blt_lt hd) (fun ρ' w'' _ _ => h.pl.h ρ ρ' w' w'' v (hr ρ))⟩
def CtxW (C : Ctx) (w : World) (g : Nat) : Ctx := { C with G := fun w' => C.G w' ∧ ∀ q, q < w.heap.size → q ≠ g → w'.heap[q]? = w.heap[q]? }
theorem Sp.ctx {C C' : Ctx} {f : FuncId} {args : List AV} {r : AV} (h : Sp C f args r) (hP : C'.P = C.P) (hG : ∀ w, C'.G w → C.G w) : Sp C' f args r :=
  ⟨hP ▸ h.ok, h.cl, fun O w vs h1 h2 h3 => hP ▸ h.w O w vs h1 (fun w' hx => hG _ (h2 w' hx)) h3⟩
theorem Sp.inW {C : Ctx} {f : FuncId} {args : List AV} {r : AV} (h : Sp C f args r) (w : World) (g : Nat) : Sp (CtxW C w g) f args r := h.ctx rfl fun _ h => h.1
structure RetW (C : Ctx) (rs : List ResultVar) (r : AV) (k : Nat) (e : TypeId) (α : Type) (mk : α → Nat → Leaf) (Z : Nat → α) (n l m : Nat) (V : Value → Prop) (st : St) : Prop where
  w : ∃ ts k0, resL C st rs = some ts ∧ gt st.tm 0 = .v (.c (.rs 0 k l m V)) ∧ og st.own 0 = some k0 ∧ AvLe (tupOf ts) r ∧ BlkLe k0 (.rw k e false α mk Z n)
theorem fn_spW {C : Ctx} {f : FuncId} {fn : Func} {c : Code} {rest : List AV} {r : AV} {nt : Nat} {k : Nat} {e : TypeId} {α : Type} {mk : α → Nat → Leaf} {Z Z' : Nat → α} {n l m : Nat} (hints : List (Nat × Nat)) (hT : TysOk C.P C.tys) (hm : C.P.follows .mixedOrders = true) (hf : C.P.funcs[f]? = some fn) (hb : fn.body = some c) (hnm : (fn.name == "runtime.NumGoroutine") = false)
    (hn : fn.ntmps = nt) (hle : Nat.ble (rest.length + 1) nt = true) (hpl : PlainAv r) (hpm : ∀ z j, PlainL (mk z j))
    (h : ∀ (w : World) (g : Nat) (V : Value → Prop), vcC (CtxW C w g) ⟨nt, hints, []⟩ c ⟨argsTm (.v (.c (.rs 0 k l m V)) :: rest) 0, [(0, .rw k e false α mk Z n)], 1⟩ fun ex st' => match ex with
      | .ex _ => False
      | _ => RetW (CtxW C w g) fn.results.toList r k e α mk Z' n l m V st') : SpW C f k e α mk Z Z' n l m rest r := by
  refine ⟨⟨fn, hf, hnm, by rw [hb]; rfl⟩, hpl, hpm, fun w vs g cap m1 m2 hrow hG hargs => ?_⟩
  have hlen := argsR_len (hargs (fun _ => undef) w (Ext.refl _ _))
  have hle := Nat.le_of_ble_eq_true hle
  obtain ⟨c0, q2, q3, q4, q5, q7⟩ := hrow
  have hgl : g < w.heap.size := (Array.getElem?_eq_some_iff.1 q2).1
  let v0 : Value := .slice (some ⟨g, l * k, none⟩) m (cap - l)
  let ρ0 : Nat → Value := fun _ => .slice (some ⟨g, 0, none⟩) n cap
  let w0 : World := { w with heap := w.heap.extract 0 g }
  have hw0 : w0.heap.size = g := by show (w.heap.extract 0 g).size = g; rw [Array.size_extract]; omega
  let F : Fix := { O := fun _ => False, G := (CtxW C w g).G, w0 := w0, nt := nt }
  let own0 : List (Nat × Blk) := [(0, .rw k e false α mk Z n)]
  have hog : ∀ b k1, og own0 b = some k1 → b = 0 ∧ k1 = .rw k e false α mk Z n := fun b k1 hk => by
    rw [og_cons] at hk
    split at hk
    · next hb0 => cases hk; exact ⟨hb0.symm, rfl⟩
    · cases hk
  have hogs : ∀ b, (og own0 b).isSome = true → b = 0 := fun b hs => by
    obtain ⟨k1, hk1⟩ := Option.isSome_iff_exists.1 hs
    exact (hog b k1 hk1).1
  have hXt : ∀ w', Ext (Mt F ρ0 own0) w w' → Ext (fun q => q = g) w w' := fun w' hx => hx.mono fun q _ hq => by
    rcases hq with hq | ⟨b, _, hk⟩
    · exact hq.elim
    · cases hk; rfl
  have hs0 : Sat F ⟨argsTm (.v (.c (.rs 0 k l m fun v => v = v0)) :: rest) 0, own0, 1⟩ { tmps := (v0 :: vs).toArray ++ Array.replicate (fn.ntmps - (v0 :: vs).toArray.size) undef, defers := [] } w := by
    refine ⟨ρ0, rfl, ?_, fun t ρ' w' k1 k2 => ?_, fun b k1 hk => ?_, fun b b' q h1 h2 _ _ => (hogs b h1).trans (hogs b' h2).symm, fun b q h1 h2 => ?_, fun b q _ _ hq => hq.elim, ?_, fun ρ' w' _ k2 => ⟨hG w' (hXt w' k2), fun q hq hqg => k2.keep q hq fun hm => ?_⟩, fun _ h => h.elim⟩
    · simp only [Array.size_append, Array.size_replicate, List.size_toArray, List.length_cons, hlen, hn]
      show _ = nt
      omega
    · have hρ : ρ' 0 = ρ0 0 := k1 0 rfl
      have := argsTm_at (ρ := ρ') (w := w') (i := 0) (t := t) (pre := []) (n := fn.ntmps - (v0 :: vs).toArray.size) (l := .v (.c (.rs 0 k l m fun v => v = v0)) :: rest) (vs := v0 :: vs) ⟨⟨rfl, by show v0 = subV (ρ' 0) _ _ _ ∧ 1 ≤ m ∧ l + m ≤ lenV (ρ' 0) ∧ _; rw [hρ]; exact ⟨rfl, m1, m2, rfl⟩⟩, hargs ρ' w' (hXt w' k2)⟩ rfl
      simpa using this
    · obtain ⟨rfl, rfl⟩ := hog b k1 hk
      exact .inr ⟨g, cap, c0, rfl, q2, q3, q4, q5, trivial, fun i j hi hj => by
        obtain ⟨pp, x, x1, x2, x3⟩ := q7 i j hi hj
        exact ⟨pp, x, x1, x2, fun ρ' w'' _ _ => x3 ρ' w''⟩⟩
    · cases h2
      exact Nat.le_of_eq hw0
    · refine ⟨rfl, rfl, rfl, by show w0.heap.size ≤ _; omega, fun q hq => ?_⟩
      have hq : q < g := by rw [← hw0]; exact hq
      show _ = (w.heap.extract 0 g)[q]?
      rw [Array.getElem?_extract, if_pos (by omega), Nat.zero_add]
    · rcases hm with hm | ⟨b, _, hk⟩
      · exact hm.elim
      · cases hk; exact hqg rfl
  have fin : ∀ st' a' w', RetW (CtxW C w g) fn.results.toList r k e α mk Z' n l m (fun v => v = v0) st' → Sat F st' a' w' → a'.defers = [] ∧ ∃ v, (results fn a'.tmps).run C.P w' = .ok v w' ∧ ∃ v', (Ending.returned v = .returned v') ∧ w'.os = w.os ∧ w'.tape = w.tape ∧ w'.output = w.output ∧ w.heap.size ≤ w'.heap.size ∧ (∀ q, q < w.heap.size → q ≠ g → w'.heap[q]? = w.heap[q]?) ∧ RowAt w' g k e α mk Z' n cap ∧ ∀ ρ, r.at ρ w' v' := by
    rintro st' a' w' ⟨ts, k0, h1, h2, h3, h4, h5⟩ ⟨ρ, hs⟩
    obtain ⟨vs', p1, p2⟩ := resL_run (C := CtxW C w g) hT hs h1
    have ht := (hs.tm 0).now
    rw [h2] at ht
    obtain ⟨_, t1, t2, t3, t4⟩ := ht
    have hA := h5.h w' _ (fun l u => Rob F ρ st'.own w' fun ρ' w' => l.at ρ' w' u) _ (fun l l' u hl ho hr ρ' w' k1 k2 => hl.h ρ' w' u ho (hr ρ' w' k1 k2)) (hs.own 0 k0 h3)
    have hfr := hs.gl.now.2
    rcases hA with ⟨n1, rfl⟩ | ⟨g', cap', c', n1, n2, n3, n4, n5, n6, n7⟩
    · rw [n1] at t3
      change l + m ≤ 0 at t3
      omega
    · rw [t4, n1] at t1
      have t1 : v0 = .slice (some ⟨g', l * k, none⟩) m (cap' - l) := t1
      injection t1 with e1 _ e2
      injection e1 with e1
      injection e1 with e1 _ _
      subst e1
      obtain rfl : cap' = cap := by omega
      refine ⟨hs.dfr, valOf vs', run_results p1, valOf vs', rfl, hs.below.os, hs.below.tape, hs.below.output, ?_, hfr, ⟨c', n2, n3, n4, n5, fun i j hi hj => ?_⟩, fun ρ' => ?_⟩
      · have hg' : g < w'.heap.size := (Array.getElem?_eq_some_iff.1 n2).1
        rcases Nat.lt_or_ge w'.heap.size w.heap.size with hlt | hge
        · exfalso
          have := hfr w'.heap.size hlt (by omega)
          rw [Array.getElem?_eq_none (Nat.le_refl _), Array.getElem?_eq_getElem hlt] at this
          cases this
        · exact hge
      · obtain ⟨pp, x, x1, x2, x3⟩ := n7 i j hi hj
        exact ⟨pp, x, x1, x2, fun ρ' w'' => (hpm _ _).h ρ ρ' w' w'' x x3.now⟩
      · exact hpl.h ρ ρ' w' w' _ (h4.h ρ w' _ (tupOf_at p2.now))
  refine calls_of_wp hf hb (vcC_sound (C := CtxW C w g) (F := F) hT hm rfl rfl c (h w g (fun v => v = v0)) ⟨?_, ?_, ?_⟩ hs0)
  · intro st' a' w' hr hs
    exact fin st' a' w' hr hs
  · intro st' a' w' hr hs
    exact fin st' a' w' hr hs
  · rintro i st' a' w' h _
    exact h.elim
end Go.VG
