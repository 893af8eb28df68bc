/- Own texts joined: MnI, MnJ, MnK, MnL. -/
import Derived.Test.YtedfcemebdlgfaaDoorPkMnG
import Derived.Test.YtedfcemebdlgfaaDoorPkDmH
/- manin.enter: the list of the points and the place of every pair, walked. -/
namespace Go.Proofs.YtedfcemebdlgfaaDoor
open Go Go.RowKit Go.VG HP
theorem Kron_sp (D q : Int) (h1 : -1000000 ≤ D) (h2 : D ≤ 1000000) (h3 : -1000000 ≤ q) (h4 : q ≤ 1000000) : Sp CX 22 [int .i64 D, int .i64 q] (int .i64 (kro D q)) := by
  refine .of_val (vs0 := [.int .i64 D, .int .i64 q]) (callOk Tryd.func22 (by kernel_rfl) (by kernel_rfl)) rfl (fun ρ w vs h => ?_) (fun _ _ => ⟨rfl, rfl⟩) fun w hG => (kronecker_any D q w (by omega) (by omega) (by omega) (by omega) hG).mono fun _ _ ⟨h1, h2⟩ => ⟨h1, h2 ▸ Below.refl _ _⟩
  match vs, h with
  | [_, _], ⟨⟨_, rfl⟩, ⟨_, rfl⟩, _⟩ => rfl
/-- a place: its index and its sign -/
def plL (p : Nat × Int) (j : Nat) : Leaf := getL [ix p.1, ix p.2] j
def plZ (n : Nat) (D : Int) (y : Nat) : Nat × Int := (pIx n y, pSg n D y)
def wLs (n : Nat) (D : Int) (w : Nat) : List Leaf := [ix n, ix w, .sl 3 Nat (ptL n) (pt n) (pts n).length, .sl 2 (Nat × Int) plL (plZ n D) (n * n)]
def wV (n : Nat) (D : Int) (w : Nat) : V1 := .c (.ptr 4 fun j => getL (wLs n D w) (0 + j))
def wA (n : Nat) (D : Int) (w : Nat) : AV := .v (wV n D w)
/-- the places, so far -/
structure PlI (n : Nat) (D : Int) (l j : Nat) (Z : Nat → Nat × Int) : Prop where
  yes : ∀ y j' s, Pl n y j' s → (s < l ∨ (s = l ∧ j' < j)) → Z y = (j', kro D s)
  no : ∀ y, y < n * n → (∀ j' s, Pl n y j' s → ¬ (s < l ∨ (s = l ∧ j' < j))) → Z y = (0, 0)
theorem PlI.start (n : Nat) (D : Int) : PlI n D 1 0 (fun _ => (0, 0)) :=
  ⟨fun y j' s h hs => by have := h.1.1; omega, fun _ _ _ => rfl⟩
theorem PlI.step {n l j : Nat} {D : Int} {Z : Nat → Nat × Int} (hn : 0 < n) (h : PlI n D l j Z) (hl : UU n l) (hj : j < (pts n).length) : PlI n D l (j + 1) (setZ (Nat × Int) Z (mu n l (pt n j)) (j, kro D l)) := by
  have hp : Pl n (mu n l (pt n j)) j l := ⟨hl, pt n j, pt_at hj, rfl⟩
  refine ⟨fun y j' s k hs => ?_, fun y hy k => ?_⟩
  · unfold setZ
    by_cases e : y = mu n l (pt n j)
    · rw [if_pos e]
      obtain ⟨r1, r2⟩ := (e ▸ k : Pl n (mu n l (pt n j)) j' s).uniq hn hp
      rw [r1, r2]
    · rw [if_neg e]
      refine h.yes y j' s k ?_
      rcases hs with hs | ⟨hs, hj'⟩
      · exact .inl hs
      · refine .inr ⟨hs, ?_⟩
        apply Nat.lt_of_le_of_ne (by omega)
        intro ej
        obtain ⟨_, x, hx, hm⟩ := k
        rw [ej] at hx
        rw [hs, ← pt_of hx] at hm
        exact e hm.symm
  · unfold setZ
    by_cases e : y = mu n l (pt n j)
    · exact absurd (.inr ⟨rfl, by omega⟩) (k j l (e ▸ hp))
    · rw [if_neg e]
      exact h.no y hy fun j' s k' hs => k j' s k' (by omega)
theorem PlI.next {n l : Nat} {D : Int} {Z : Nat → Nat × Int} (hn : 0 < n) (h : PlI n D l (pts n).length Z) : PlI n D (l + 1) 0 Z :=
  ⟨fun y j' s k hs => h.yes y j' s k (by have := (k.lt hn).2; omega), fun y hy k => h.no y hy fun j' s k' hs => k j' s k' (by omega)⟩
theorem PlI.skip {n l : Nat} {D : Int} {Z : Nat → Nat × Int} (h : PlI n D l 0 Z) (hl : ¬ UU n l) : PlI n D (l + 1) 0 Z :=
  ⟨fun y j' s k hs => h.yes y j' s k (by
    have : s ≠ l := fun e => hl (e ▸ k.1)
    omega), fun y hy k => h.no y hy fun j' s k' hs => k j' s k' (by omega)⟩
theorem PlI.fin {n : Nat} {D : Int} {Z : Nat → Nat × Int} (hn : 0 < n) (h : PlI n D (n + 1) 0 Z) {y : Nat} (hy : y < n * n) : Z y = plZ n D y := by
  unfold plZ
  cases hc : copB n y with
  | true =>
    obtain ⟨j, s, k⟩ := Pl.ex hn hy hc
    rw [h.yes y j s k (.inl (by have := k.1.2.1; omega)), pIx_of hn k, pSg_of hn k]
  | false =>
    rw [h.no y hy fun j s k => absurd (k.cop hn) (by rw [hc]; exact Bool.false_ne_true), pIx_no hc, pSg_no hc]
theorem mk_pl (m : Nat) : ∀ i j, i < m → j < 2 → plL ((fun _ : Nat => ((0, 0) : Nat × Int)) i) j = .x (([.int .i64 0, .int .i64 0] : List Value).getD j undef) := fun i j _ hj => by
  rcases (show j = 0 ∨ j = 1 by omega) with rfl | rfl <;> rfl
theorem ptr_le {k : Nat} {f g : Nat → Leaf} (h : ∀ j, j < k → LeafLe (f j) (g j)) : LeafLe (.ptr k f) (.ptr k g) :=
  ⟨fun _ w _ _ ⟨b, off, e, hc⟩ => ⟨b, off, e, fun j hj => by
    obtain ⟨u, u1, u2, u3⟩ := hc j hj
    exact ⟨u, u1, u2, fun ρ' => (h j hj).h ρ' w u u2 (u3 ρ')⟩⟩⟩
theorem enter_bad (L K D : Int) (h : dchk L K D ≠ 0) : Sp CX 42 [specA L K D] (.tup [.c (.x (.pointer none)), .c (ix (dchk L K D))]) := by
  have s := checkm_sp L K D
  obtain ⟨e, he⟩ : ∃ e, e = dchk L K D := ⟨_, rfl⟩
  rw [← he] at s h ⊢
  refine fn_sp (C := CX) [] [] tysX_ok mixed Tryd.func42 rfl (by kernel_rfl) Tryd.ntmps42 rfl rfl ?_
  repeat' ((conv => whnf); first | refine Ob.g ?_ | refine WrOb.g ?_ | refine WrOb.u32 ?_ | refine WrOb.u64 ?_ | refine Cases.y ?_ | refine Cases.n ?_ | refine Idx.g rfl ?_ | refine Idx.z rfl ?_ | refine DrawOb.start ?_ | refine TryF.f ?_ | refine TryF.next rfl ?_ | refine TryF.other ?_ | refine TryA.g ?_ | refine TryA.next rfl ?_ | refine TryA.other ?_ | refine TryS.g ?_ | refine TryS.next rfl ?_ | refine TryS.other ?_ | refine TryG.g ?_ | refine TryG.next rfl ?_ | refine TryG.other ?_ | refine TryT.g ?_ | refine Sp.g (s) ?_)
  refine ⟨⟨_, _, rfl, rfl, ?_⟩⟩
  exact AvLe.refl _
set_option maxHeartbeats 16000000 in
set_option maxRecDepth 20000 in
theorem enter_ok (n k : Nat) (D : Int) (h : DOk n k D) : Sp CX 42 [specA n k D] (.tup [wV n D (k - 2), .c (ix 0)]) := by
  have s1 := checkm_sp n k D
  rw [h.chk] at s1
  obtain ⟨n0, n1, k0, k1, d0, d1, dz, d4, _, dv, _, bg⟩ := h
  have s2 := List_sp n n0 n1
  have hl : (pts n).length ≤ n * n := by
    have := cntN_le n (n * n)
    rwa [cntN_end] at this
  have hnn : (n : Int) * n ≤ 120 * 120 := Int.mul_le_mul (by omega) (by omega) (by omega) (by omega)
  have hnn0 : (0 : Int) ≤ (n : Int) * n := Int.mul_nonneg (by omega) (by omega)
  have enn : ((n * n : Nat) : Int) = (n : Int) * n := by push_cast; rfl
  refine fn_sp (C := CX) [] [9,11] tysX_ok mixed Tryd.func42 rfl (by kernel_rfl) Tryd.ntmps42 rfl rfl ?_
  repeat' ((conv => whnf); first | (refine TryS.other ?_) | (refine Ob.mk ⟨rfl, by omega, by decide⟩ ?_) | refine Ob.g ?_ | refine WrOb.g ?_ | refine WrOb.u32 ?_ | refine WrOb.u64 ?_ | refine Cases.y ?_ | refine Cases.n ?_ | refine Idx.g rfl ?_ | refine Idx.z rfl ?_ | refine DrawOb.start ?_ | refine TryF.f ?_ | refine TryF.next rfl ?_ | refine TryF.other ?_ | refine TryA.g ?_ | refine TryA.next rfl ?_ | refine TryA.other ?_ | refine TryS.g ?_ | refine TryS.next rfl ?_ | refine TryS.other ?_ | refine TryG.g ?_ | refine TryG.next rfl ?_ | refine TryG.other ?_ | refine TryT.g ?_ | refine Sp.g (s1) ?_ | refine Sp.g (s2) ?_)
  refine ⟨⟨Nat × Int, plL, fun _ => (0, 0), n * n, by rw [enn], mk_pl _, ?_⟩⟩
  repeat' ((conv => whnf); first | (refine TryS.other ?_) | refine Ob.g ?_ | refine WrOb.g ?_ | refine WrOb.u32 ?_ | refine WrOb.u64 ?_ | refine Cases.y ?_ | refine Cases.n ?_ | refine Idx.g rfl ?_ | refine Idx.z rfl ?_ | refine DrawOb.start ?_ | refine TryF.f ?_ | refine TryF.next rfl ?_ | refine TryF.other ?_ | refine TryA.g ?_ | refine TryA.next rfl ?_ | refine TryA.other ?_ | refine TryS.g ?_ | refine TryS.next rfl ?_ | refine TryS.other ?_ | refine TryG.g ?_ | refine TryG.next rfl ?_ | refine TryG.other ?_ | refine TryT.g ?_)
  refine ⟨⟨Nat × (Nat → Nat × Int), fun (l, Z) => ⟨[(1, .v (.c (.loc 0 0))), (5, .v (.c (.sl 3 Nat (ptL n) (pt n) (pts n).length))), (7, int .i64 n), (8, .v (.c (.loc 11 0))), (9, int .i64 l)], [(11, .st [ix n, ix ((k - 2 : Nat) : Int), .sl 3 Nat (ptL n) (pt n) (pts n).length, .row 9]), (9, .rw 2 87 false (Nat × Int) plL Z (n * n)), (0, .st [ix n, ix k, ix D])], 12⟩, fun (l, Z) => 1 ≤ l ∧ l ≤ n + 1 ∧ PlI n D l 0 Z, fun (l, _) => n + 1 - l, ⟨(1, fun _ => (0, 0)), [], ⟨Nat.le_refl _, by omega, .start n D⟩, by
    refine ⟨?_, ?_, rfl⟩
    · repeat (first | exact TmE.nil | refine TmE.cons (by first | exact AvLe.refl _ | exact AvLe.int (by omega)) ?_)
    · refine OwnE.cons rfl (.st (.cons (.refl _) (.cons (.int (by omega)) (.cons (.refl _) (.cons (.refl _) .nil))))) ?_
      repeat (first | exact OwnE.nil | refine OwnE.cons rfl (BlkLe.refl _) ?_)⟩, ?_⟩⟩
  rintro ⟨l, Z⟩ ⟨l1, l2, hP⟩
  by_cases hln : l ≤ n
  · have sg := gcd_sp l n (by omega) (by omega) (by omega) (by omega)
    rw [gcdW_eq (by omega) (by omega) (by omega) (by omega), show Int.gcd (l : Int) n = Nat.gcd l n from rfl] at sg
    have em : n + 1 - (l + 1) < n + 1 - l := by omega
    by_cases hg : Nat.gcd l n = 1
    · have hu : UU n l := ⟨l1, hln, hg⟩
      have sk := Kron_sp D l (by omega) (by omega) (by omega) (by omega)
      repeat' ((conv => whnf); first | refine Ob.g ?_ | refine WrOb.g ?_ | refine WrOb.u32 ?_ | refine WrOb.u64 ?_ | refine Cases.y ?_ | refine Cases.n ?_ | refine Idx.g rfl ?_ | refine Idx.z rfl ?_ | refine DrawOb.start ?_ | refine TryF.f ?_ | refine TryF.next rfl ?_ | refine TryF.other ?_ | refine TryA.g ?_ | refine TryA.next rfl ?_ | refine TryA.other ?_ | refine TryS.g ?_ | refine TryS.next rfl ?_ | refine TryS.other ?_ | refine TryG.g ?_ | refine TryG.next rfl ?_ | refine TryG.other ?_ | refine TryT.g ?_ | refine Sp.g (sg) ?_ | refine Sp.g (sk) ?_)
      refine ⟨⟨Nat × (Nat → Nat × Int), fun (j, Z) => ⟨[(1, .v (.c (.loc 0 0))), (5, .v (.c (.sl 3 Nat (ptL n) (pt n) (pts n).length))), (7, int .i64 n), (8, .v (.c (.loc 11 0))), (9, int .i64 l), (10, int .i64 (kro D l)), (53, .v (.c (.sl 3 Nat (ptL n) (pt n) (pts n).length))), (54, int .i64 (pts n).length), (55, int .i64 j)], [(11, .st [ix n, ix ((k - 2 : Nat) : Int), .sl 3 Nat (ptL n) (pt n) (pts n).length, .row 9]), (9, .rw 2 87 false (Nat × Int) plL Z (n * n)), (0, .st [ix n, ix k, ix D])], 12⟩, fun (j, Z) => j ≤ (pts n).length ∧ PlI n D l j Z, fun (j, _) => (pts n).length - j, ⟨(0, Z), [], ⟨Nat.zero_le _, hP⟩, Ent.g⟩, ?_⟩⟩
      clear hP
      rintro ⟨j, Z⟩ ⟨j1, hP⟩
      have hlj : (pts n).length ≤ 14400 := Nat.le_trans hl (Nat.mul_le_mul n1 n1)
      by_cases hj : j < (pts n).length
      · have hn2 := hP.step (by omega) hu hj
        have hx := pt_lt hj
        have hu1 : pt n j / n < n := Nat.div_lt_of_lt_mul hx
        have hv1 : pt n j % n < n := Nat.mod_lt _ (by omega)
        have hmu : mu n l (pt n j) = l * (pt n j / n) % n * n + l * (pt n j % n) % n := rfl
        have hml : mu n l (pt n j) < n * n := mu_lt (by omega) _ _
        have b1 : l * (pt n j / n) ≤ 120 * 120 := Nat.mul_le_mul (by omega) (by omega)
        have b2 : l * (pt n j % n) ≤ 120 * 120 := Nat.mul_le_mul (by omega) (by omega)
        have ea : ((l : Int) * (pt n j / n : Nat)).tmod n = ((l * (pt n j / n) % n : Nat) : Int) := by rw [← Int.natCast_mul]; exact (Int.ofNat_tmod _ _).symm
        have eb : ((l : Int) * (pt n j % n : Nat)).tmod n = ((l * (pt n j % n) % n : Nat) : Int) := by rw [← Int.natCast_mul]; exact (Int.ofNat_tmod _ _).symm
        have la := Nat.mod_lt (l * (pt n j / n)) (show n > 0 by omega)
        have lb := Nat.mod_lt (l * (pt n j % n)) (show n > 0 by omega)
        have q1 : (l : Int) * (pt n j / n : Nat) ≤ 120 * 120 := by rw [← Int.natCast_mul]; exact_mod_cast b1
        have q2 : (l : Int) * (pt n j % n : Nat) ≤ 120 * 120 := by rw [← Int.natCast_mul]; exact_mod_cast b2
        have q1' : (0 : Int) ≤ (l : Int) * (pt n j / n : Nat) := Int.mul_nonneg (by omega) (Int.natCast_nonneg _)
        have q2' : (0 : Int) ≤ (l : Int) * (pt n j % n : Nat) := Int.mul_nonneg (by omega) (Int.natCast_nonneg _)
        have q3 : ((l : Int) * (pt n j / n : Nat)).tmod n * n ≤ 120 * 120 := by rw [ea]; exact Int.mul_le_mul (by omega) (by omega) (by omega) (by omega)
        have q3' : 0 ≤ ((l : Int) * (pt n j / n : Nat)).tmod n * n := by rw [ea]; exact Int.mul_nonneg (by omega) (by omega)
        have q4 : 0 ≤ ((l : Int) * (pt n j % n : Nat)).tmod n ∧ ((l : Int) * (pt n j % n : Nat)).tmod n ≤ 120 := by rw [eb]; omega
        have ix1 : ((l : Int) * (pt n j / n : Nat)).tmod n * n + ((l : Int) * (pt n j % n : Nat)).tmod n = ((mu n l (pt n j) : Nat) : Int) := by rw [ea, eb, hmu]; push_cast; rfl
        clear hP hmu la lb ea eb b1 b2
        repeat' ((conv => whnf); first | (refine Idx.mk ⟨j, rfl, hj, ?_⟩) | (refine Idx.mk ⟨mu n l (pt n j), by omega, hml, ?_⟩) | (refine TryS.other ?_) | refine Ob.g ?_ | refine WrOb.g ?_ | refine WrOb.u32 ?_ | refine WrOb.u64 ?_ | refine Cases.y ?_ | refine Cases.n ?_ | refine Idx.g rfl ?_ | refine Idx.z rfl ?_ | refine DrawOb.start ?_ | refine TryF.f ?_ | refine TryF.next rfl ?_ | refine TryF.other ?_ | refine TryA.g ?_ | refine TryA.next rfl ?_ | refine TryA.other ?_ | refine TryS.g ?_ | refine TryS.next rfl ?_ | refine TryS.other ?_ | refine TryG.g ?_ | refine TryG.next rfl ?_ | refine TryG.other ?_ | refine TryT.g ?_)
        refine ⟨⟨(j, kro D l), rfl, ?_⟩⟩
        repeat' ((conv => whnf); first | refine Ob.g ?_ | refine WrOb.g ?_ | refine WrOb.u32 ?_ | refine WrOb.u64 ?_ | refine Cases.y ?_ | refine Cases.n ?_ | refine Idx.g rfl ?_ | refine Idx.z rfl ?_ | refine DrawOb.start ?_ | refine TryF.f ?_ | refine TryF.next rfl ?_ | refine TryF.other ?_ | refine TryA.g ?_ | refine TryA.next rfl ?_ | refine TryA.other ?_ | refine TryS.g ?_ | refine TryS.next rfl ?_ | refine TryS.other ?_ | refine TryG.g ?_ | refine TryG.next rfl ?_ | refine TryG.other ?_ | refine TryT.g ?_)
        exact ⟨(j + 1, _), [], ⟨hj, hn2⟩, by show (pts n).length - (j + 1) < (pts n).length - j; omega, Ent.g⟩
      · obtain rfl : j = (pts n).length := by omega
        have hn2 := hP.next (by omega)
        clear hP
        repeat' ((conv => whnf); first | refine Ob.g ?_ | refine WrOb.g ?_ | refine WrOb.u32 ?_ | refine WrOb.u64 ?_ | refine Cases.y ?_ | refine Cases.n ?_ | refine Idx.g rfl ?_ | refine Idx.z rfl ?_ | refine DrawOb.start ?_ | refine TryF.f ?_ | refine TryF.next rfl ?_ | refine TryF.other ?_ | refine TryA.g ?_ | refine TryA.next rfl ?_ | refine TryA.other ?_ | refine TryS.g ?_ | refine TryS.next rfl ?_ | refine TryS.other ?_ | refine TryG.g ?_ | refine TryG.next rfl ?_ | refine TryG.other ?_ | refine TryT.g ?_)
        exact ⟨(l + 1, Z), [], ⟨by omega, by omega, hn2⟩, em, Ent.g⟩
    · have hn2 := hP.skip (fun h => hg h.2.2)
      clear hP
      repeat' ((conv => whnf); first | refine Ob.g ?_ | refine WrOb.g ?_ | refine WrOb.u32 ?_ | refine WrOb.u64 ?_ | refine Cases.y ?_ | refine Cases.n ?_ | refine Idx.g rfl ?_ | refine Idx.z rfl ?_ | refine DrawOb.start ?_ | refine TryF.f ?_ | refine TryF.next rfl ?_ | refine TryF.other ?_ | refine TryA.g ?_ | refine TryA.next rfl ?_ | refine TryA.other ?_ | refine TryS.g ?_ | refine TryS.next rfl ?_ | refine TryS.other ?_ | refine TryG.g ?_ | refine TryG.next rfl ?_ | refine TryG.other ?_ | refine TryT.g ?_ | refine Sp.g (sg) ?_)
      exact ⟨(l + 1, Z), [], ⟨by omega, by omega, hn2⟩, em, Ent.g⟩
  · obtain rfl : l = n + 1 := by omega
    have hf := fun y (hy : y < n * n) => hP.fin (by omega) hy
    clear hP
    repeat' ((conv => whnf); first | refine Ob.g ?_ | refine WrOb.g ?_ | refine WrOb.u32 ?_ | refine WrOb.u64 ?_ | refine Cases.y ?_ | refine Cases.n ?_ | refine Idx.g rfl ?_ | refine Idx.z rfl ?_ | refine DrawOb.start ?_ | refine TryF.f ?_ | refine TryF.next rfl ?_ | refine TryF.other ?_ | refine TryA.g ?_ | refine TryA.next rfl ?_ | refine TryA.other ?_ | refine TryS.g ?_ | refine TryS.next rfl ?_ | refine TryS.other ?_ | refine TryG.g ?_ | refine TryG.next rfl ?_ | refine TryG.other ?_ | refine TryT.g ?_)
    refine ⟨⟨_, _, rfl, rfl, ?_⟩⟩
    refine .tup (.cons (.leaf (ptr_le fun j hj => ?_)) (.cons (.refl _) .nil))
    have hj4 : j < 4 := hj
    clear hj
    rcases (show j = 0 ∨ j = 1 ∨ j = 2 ∨ j = 3 by omega) with rfl | rfl | rfl | rfl
    · exact .refl _
    · exact .refl _
    · exact .refl _
    · exact .sl fun i q hi _ => by rw [hf i hi]; exact .refl _
end Go.Proofs.YtedfcemebdlgfaaDoor

/- The small functions of manin.world, walked. -/
namespace Go.Proofs.YtedfcemebdlgfaaDoor
open Go Go.RowKit Go.VG HP
theorem tm_rz {n : Nat} (hn : 0 < n) (x : Int) : (x.tmod n < 0 → x.tmod n + n = rz n x) ∧ (0 ≤ x.tmod n → x.tmod n = rz n x) ∧ -(n : Int) < x.tmod n ∧ x.tmod n < n := by
  have h1 := rz_int hn x
  have h2 := Int.emod_nonneg x (show (n : Int) ≠ 0 by omega)
  have h3 := Int.emod_lt_of_pos x (show (0 : Int) < n by omega)
  have h4 := Int.tmod_eq_emod (a := x) (b := n)
  have h5 : ((n : Int).natAbs : Int) = n := by omega
  rw [h1]
  split at h4
  · omega
  · rw [h5] at h4
    have h6 : x % n ≠ 0 := fun e => by rename_i hx; exact hx (.inr (Int.dvd_of_emod_eq_zero e))
    omega
theorem residue_sp (n : Nat) (D : Int) (w : Nat) (x : Int) (n0 : 1 ≤ n) (n1 : n ≤ 120) : Sp CX 68 [wA n D w, int .i64 x] (int .i64 (rz n x)) := by
  obtain ⟨h1, h2, h3, h4⟩ := tm_rz (show 0 < n by omega) x
  have h5 := rz_lt (show 0 < n by omega) x
  by_cases h : x.tmod n < 0
  · have h1 := h1 h
    clear h2
    refine fn_sp (C := CX) [] [] tysX_ok mixed Tryd.func68 rfl (by kernel_rfl) Tryd.ntmps68 rfl rfl ?_
    repeat' ((conv => whnf); first | refine Ob.g ?_ | refine WrOb.g ?_ | refine WrOb.u32 ?_ | refine WrOb.u64 ?_ | refine Cases.y ?_ | refine Cases.n ?_ | refine Idx.g rfl ?_ | refine Idx.z rfl ?_ | refine DrawOb.start ?_ | refine TryF.f ?_ | refine TryF.next rfl ?_ | refine TryF.other ?_ | refine TryA.g ?_ | refine TryA.next rfl ?_ | refine TryA.other ?_ | refine TryS.g ?_ | refine TryS.next rfl ?_ | refine TryS.other ?_ | refine TryG.g ?_ | refine TryG.next rfl ?_ | refine TryG.other ?_ | refine TryT.g ?_)
    refine ⟨⟨_, _, rfl, rfl, ?_⟩⟩
    exact .int (by omega)
  · have h2 := h2 (by omega)
    clear h1
    refine fn_sp (C := CX) [] [] tysX_ok mixed Tryd.func68 rfl (by kernel_rfl) Tryd.ntmps68 rfl rfl ?_
    repeat' ((conv => whnf); first | refine Ob.g ?_ | refine WrOb.g ?_ | refine WrOb.u32 ?_ | refine WrOb.u64 ?_ | refine Cases.y ?_ | refine Cases.n ?_ | refine Idx.g rfl ?_ | refine Idx.z rfl ?_ | refine DrawOb.start ?_ | refine TryF.f ?_ | refine TryF.next rfl ?_ | refine TryF.other ?_ | refine TryA.g ?_ | refine TryA.next rfl ?_ | refine TryA.other ?_ | refine TryS.g ?_ | refine TryS.next rfl ?_ | refine TryS.other ?_ | refine TryG.g ?_ | refine TryG.next rfl ?_ | refine TryG.other ?_ | refine TryT.g ?_)
    refine ⟨⟨_, _, rfl, rfl, ?_⟩⟩
    exact .int (by omega)
theorem count_sp (n : Nat) (D : Int) (w : Nat) (_ : 1 ≤ n) (n1 : n ≤ 120) (hw : w ≤ 200) : Sp CX 47 [wA n D w] (int .i64 ((w + 1) * (pts n).length : Nat)) := by
  have hl : (pts n).length ≤ n * n := by
    have := cntN_le n (n * n)
    rwa [cntN_end] at this
  have hl2 : (pts n).length ≤ 120 * 120 := Nat.le_trans hl (Nat.mul_le_mul n1 n1)
  have hb : (w + 1) * (pts n).length ≤ 201 * (120 * 120) := Nat.mul_le_mul (by omega) hl2
  have e : (((w + 1) * (pts n).length : Nat) : Int) = ((w : Int) + 1) * (pts n).length := by push_cast; rfl
  have e2 : ((w : Int) + 1) * (pts n).length ≤ 201 * (120 * 120) := by rw [← e]; omega
  have e3 : 0 ≤ ((w : Int) + 1) * (pts n).length := by rw [← e]; omega
  rw [e]
  refine fn_sp (C := CX) [] [] tysX_ok mixed Tryd.func47 rfl (by kernel_rfl) Tryd.ntmps47 rfl rfl ?_
  repeat' ((conv => whnf); first | refine Ob.g ?_ | refine WrOb.g ?_ | refine WrOb.u32 ?_ | refine WrOb.u64 ?_ | refine Cases.y ?_ | refine Cases.n ?_ | refine Idx.g rfl ?_ | refine Idx.z rfl ?_ | refine DrawOb.start ?_ | refine TryF.f ?_ | refine TryF.next rfl ?_ | refine TryF.other ?_ | refine TryA.g ?_ | refine TryA.next rfl ?_ | refine TryA.other ?_ | refine TryS.g ?_ | refine TryS.next rfl ?_ | refine TryS.other ?_ | refine TryG.g ?_ | refine TryG.next rfl ?_ | refine TryG.other ?_ | refine TryT.g ?_)
  refine ⟨⟨_, _, rfl, rfl, ?_⟩⟩
  exact AvLe.refl _
/-- the place of a pair -/
def plV (n : Nat) (D : Int) (y : Nat) : AV := .v (.agg [ix (pIx n y), ix (pSg n D y)])
theorem at_sp (n : Nat) (D : Int) (w : Nat) (u v : Int) (n0 : 1 ≤ n) (n1 : n ≤ 120) : Sp CX 43 [wA n D w, int .i64 u, int .i64 v] (plV n D (pr n u v)) := by
  have s1 := residue_sp n D w u n0 n1
  have s2 := residue_sp n D w v n0 n1
  have hy := pr_lt (show 0 < n by omega) u v
  have e : ((pr n u v : Nat) : Int) = (rz n u : Nat) * n + (rz n v : Nat) := by unfold pr; push_cast; rfl
  have h5 := rz_lt (show 0 < n by omega) u
  have h6 := rz_lt (show 0 < n by omega) v
  have q1 : ((rz n u : Nat) : Int) * n ≤ 120 * 120 := Int.mul_le_mul (by omega) (by omega) (by omega) (by omega)
  have q2 : 0 ≤ ((rz n u : Nat) : Int) * n := Int.mul_nonneg (by omega) (by omega)
  refine fn_sp (C := CX) [] [] tysX_ok mixed Tryd.func43 rfl (by kernel_rfl) Tryd.ntmps43 rfl rfl ?_
  repeat' ((conv => whnf); first | (refine Idx.mk ⟨pr n u v, by omega, hy, ?_⟩) | refine Ob.g ?_ | refine WrOb.g ?_ | refine WrOb.u32 ?_ | refine WrOb.u64 ?_ | refine Cases.y ?_ | refine Cases.n ?_ | refine Idx.g rfl ?_ | refine Idx.z rfl ?_ | refine DrawOb.start ?_ | refine TryF.f ?_ | refine TryF.next rfl ?_ | refine TryF.other ?_ | refine TryA.g ?_ | refine TryA.next rfl ?_ | refine TryA.other ?_ | refine TryS.g ?_ | refine TryS.next rfl ?_ | refine TryS.other ?_ | refine TryG.g ?_ | refine TryG.next rfl ?_ | refine TryG.other ?_ | refine TryT.g ?_ | refine Sp.g (s1) ?_ | refine Sp.g (s2) ?_)
  refine ⟨⟨_, _, rfl, rfl, ?_⟩⟩
  exact AvLe.refl _
end Go.Proofs.YtedfcemebdlgfaaDoor

/- manin.Count, Symbol, Number, Star, walked. -/
namespace Go.Proofs.YtedfcemebdlgfaaDoor
open Go Go.RowKit Go.VG HP
def manA (i u v : Int) : AV := .v (.agg [ix i, ix u, ix v])
theorem Count_bad (L K D : Int) (h : dchk L K D ≠ 0) : Sp CX 16 [specA L K D] (.tup [.c (ix 0), .c (ix (dchk L K D))]) := by
  have s := enter_bad L K D h
  obtain ⟨e, he⟩ : ∃ e, e = dchk L K D := ⟨_, rfl⟩
  rw [← he] at s h ⊢
  refine fn_sp (C := CX) [] [] tysX_ok mixed Tryd.func16 rfl (by kernel_rfl) Tryd.ntmps16 rfl rfl ?_
  repeat' ((conv => whnf); first | refine Ob.g ?_ | refine WrOb.g ?_ | refine WrOb.u32 ?_ | refine WrOb.u64 ?_ | refine Cases.y ?_ | refine Cases.n ?_ | refine Idx.g rfl ?_ | refine Idx.z rfl ?_ | refine DrawOb.start ?_ | refine TryF.f ?_ | refine TryF.next rfl ?_ | refine TryF.other ?_ | refine TryA.g ?_ | refine TryA.next rfl ?_ | refine TryA.other ?_ | refine TryS.g ?_ | refine TryS.next rfl ?_ | refine TryS.other ?_ | refine TryG.g ?_ | refine TryG.next rfl ?_ | refine TryG.other ?_ | refine TryT.g ?_ | refine Sp.g (s) ?_)
  refine ⟨⟨_, _, rfl, rfl, ?_⟩⟩
  exact AvLe.refl _
theorem Symbol_bad (L K D r : Int) (h : dchk L K D ≠ 0) : Sp CX 18 [specA L K D, int .i64 r] (.tup [.agg [ix 0, ix 0, ix 0], .c (ix (dchk L K D))]) := by
  have s := enter_bad L K D h
  obtain ⟨e, he⟩ : ∃ e, e = dchk L K D := ⟨_, rfl⟩
  rw [← he] at s h ⊢
  refine fn_sp (C := CX) [] [] tysX_ok mixed Tryd.func18 rfl (by kernel_rfl) Tryd.ntmps18 rfl rfl ?_
  repeat' ((conv => whnf); first | refine Ob.g ?_ | refine WrOb.g ?_ | refine WrOb.u32 ?_ | refine WrOb.u64 ?_ | refine Cases.y ?_ | refine Cases.n ?_ | refine Idx.g rfl ?_ | refine Idx.z rfl ?_ | refine DrawOb.start ?_ | refine TryF.f ?_ | refine TryF.next rfl ?_ | refine TryF.other ?_ | refine TryA.g ?_ | refine TryA.next rfl ?_ | refine TryA.other ?_ | refine TryS.g ?_ | refine TryS.next rfl ?_ | refine TryS.other ?_ | refine TryG.g ?_ | refine TryG.next rfl ?_ | refine TryG.other ?_ | refine TryT.g ?_ | refine Sp.g (s) ?_)
  refine ⟨⟨_, _, rfl, rfl, ?_⟩⟩
  exact AvLe.refl _
theorem Number_bad (L K D i u v : Int) (h : dchk L K D ≠ 0) : Sp CX 14 [specA L K D, manA i u v] (.tup [.c (ix 0), .c (ix 0), .c (ix (dchk L K D))]) := by
  have s := enter_bad L K D h
  obtain ⟨e, he⟩ : ∃ e, e = dchk L K D := ⟨_, rfl⟩
  rw [← he] at s h ⊢
  refine fn_sp (C := CX) [] [] tysX_ok mixed Tryd.func14 rfl (by kernel_rfl) Tryd.ntmps14 rfl rfl ?_
  repeat' ((conv => whnf); first | refine Ob.g ?_ | refine WrOb.g ?_ | refine WrOb.u32 ?_ | refine WrOb.u64 ?_ | refine Cases.y ?_ | refine Cases.n ?_ | refine Idx.g rfl ?_ | refine Idx.z rfl ?_ | refine DrawOb.start ?_ | refine TryF.f ?_ | refine TryF.next rfl ?_ | refine TryF.other ?_ | refine TryA.g ?_ | refine TryA.next rfl ?_ | refine TryA.other ?_ | refine TryS.g ?_ | refine TryS.next rfl ?_ | refine TryS.other ?_ | refine TryG.g ?_ | refine TryG.next rfl ?_ | refine TryG.other ?_ | refine TryT.g ?_ | refine Sp.g (s) ?_)
  refine ⟨⟨_, _, rfl, rfl, ?_⟩⟩
  exact AvLe.refl _
theorem Star_bad (L K D r : Int) (h : dchk L K D ≠ 0) : Sp CX 23 [specA L K D, int .i64 r] (.tup [.c (ix 0), .c (ix 0), .c (ix (dchk L K D))]) := by
  have s := enter_bad L K D h
  obtain ⟨e, he⟩ : ∃ e, e = dchk L K D := ⟨_, rfl⟩
  rw [← he] at s h ⊢
  refine fn_sp (C := CX) [] [] tysX_ok mixed Tryd.func23 rfl (by kernel_rfl) Tryd.ntmps23 rfl rfl ?_
  repeat' ((conv => whnf); first | refine Ob.g ?_ | refine WrOb.g ?_ | refine WrOb.u32 ?_ | refine WrOb.u64 ?_ | refine Cases.y ?_ | refine Cases.n ?_ | refine Idx.g rfl ?_ | refine Idx.z rfl ?_ | refine DrawOb.start ?_ | refine TryF.f ?_ | refine TryF.next rfl ?_ | refine TryF.other ?_ | refine TryA.g ?_ | refine TryA.next rfl ?_ | refine TryA.other ?_ | refine TryS.g ?_ | refine TryS.next rfl ?_ | refine TryS.other ?_ | refine TryG.g ?_ | refine TryG.next rfl ?_ | refine TryG.other ?_ | refine TryT.g ?_ | refine Sp.g (s) ?_)
  refine ⟨⟨_, _, rfl, rfl, ?_⟩⟩
  exact AvLe.refl _
theorem len_pts {n : Nat} (n1 : n ≤ 120) : (pts n).length ≤ 14400 := by
  have := cntN_le n (n * n)
  rw [cntN_end] at this
  exact Nat.le_trans this (Nat.mul_le_mul n1 n1)
theorem mcnt_le {n w : Nat} (n1 : n ≤ 120) (hw : w ≤ 22) : (w + 1) * (pts n).length ≤ 331200 := Nat.le_trans (Nat.mul_le_mul (show w + 1 ≤ 23 by omega) (len_pts n1)) (by decide)
theorem Count_ok (n k : Nat) (D : Int) (h : DOk n k D) : Sp CX 16 [specA n k D] (.tup [.c (ix ((k - 2 + 1) * (pts n).length : Nat)), .c (ix 0)]) := by
  have s := enter_ok n k D h
  have s2 := count_sp n D (k - 2) h.n0 h.n1 (by have := h.k1; omega)
  refine fn_sp (C := CX) [] [] tysX_ok mixed Tryd.func16 rfl (by kernel_rfl) Tryd.ntmps16 rfl rfl ?_
  repeat' ((conv => whnf); first | refine Ob.g ?_ | refine WrOb.g ?_ | refine WrOb.u32 ?_ | refine WrOb.u64 ?_ | refine Cases.y ?_ | refine Cases.n ?_ | refine Idx.g rfl ?_ | refine Idx.z rfl ?_ | refine DrawOb.start ?_ | refine TryF.f ?_ | refine TryF.next rfl ?_ | refine TryF.other ?_ | refine TryA.g ?_ | refine TryA.next rfl ?_ | refine TryA.other ?_ | refine TryS.g ?_ | refine TryS.next rfl ?_ | refine TryS.other ?_ | refine TryG.g ?_ | refine TryG.next rfl ?_ | refine TryG.other ?_ | refine TryT.g ?_ | refine Sp.g (s) ?_ | refine Sp.g (s2) ?_)
  refine ⟨⟨_, _, rfl, rfl, ?_⟩⟩
  exact AvLe.refl _
theorem Symbol_out (n k : Nat) (D r : Int) (h : DOk n k D) (hr : ¬ (0 ≤ r ∧ r < ((k - 2 + 1) * (pts n).length : Nat))) : Sp CX 18 [specA n k D, int .i64 r] (.tup [.agg [ix 0, ix 0, ix 0], .c (ix 2)]) := by
  have s := enter_ok n k D h
  have s2 := count_sp n D (k - 2) h.n0 h.n1 (by have := h.k1; omega)
  generalize (k - 2 + 1) * (pts n).length = c at *
  by_cases h0 : r < 0
  · refine fn_sp (C := CX) [] [] tysX_ok mixed Tryd.func18 rfl (by kernel_rfl) Tryd.ntmps18 rfl rfl ?_
    repeat' ((conv => whnf); first | refine Ob.g ?_ | refine WrOb.g ?_ | refine WrOb.u32 ?_ | refine WrOb.u64 ?_ | refine Cases.y ?_ | refine Cases.n ?_ | refine Idx.g rfl ?_ | refine Idx.z rfl ?_ | refine DrawOb.start ?_ | refine TryF.f ?_ | refine TryF.next rfl ?_ | refine TryF.other ?_ | refine TryA.g ?_ | refine TryA.next rfl ?_ | refine TryA.other ?_ | refine TryS.g ?_ | refine TryS.next rfl ?_ | refine TryS.other ?_ | refine TryG.g ?_ | refine TryG.next rfl ?_ | refine TryG.other ?_ | refine TryT.g ?_ | refine Sp.g (s) ?_ | refine Sp.g (s2) ?_)
    refine ⟨⟨_, _, rfl, rfl, ?_⟩⟩
    exact AvLe.refl _
  · have h1 : (c : Int) ≤ r := by omega
    refine fn_sp (C := CX) [] [] tysX_ok mixed Tryd.func18 rfl (by kernel_rfl) Tryd.ntmps18 rfl rfl ?_
    repeat' ((conv => whnf); first | refine Ob.g ?_ | refine WrOb.g ?_ | refine WrOb.u32 ?_ | refine WrOb.u64 ?_ | refine Cases.y ?_ | refine Cases.n ?_ | refine Idx.g rfl ?_ | refine Idx.z rfl ?_ | refine DrawOb.start ?_ | refine TryF.f ?_ | refine TryF.next rfl ?_ | refine TryF.other ?_ | refine TryA.g ?_ | refine TryA.next rfl ?_ | refine TryA.other ?_ | refine TryS.g ?_ | refine TryS.next rfl ?_ | refine TryS.other ?_ | refine TryG.g ?_ | refine TryG.next rfl ?_ | refine TryG.other ?_ | refine TryT.g ?_ | refine Sp.g (s) ?_ | refine Sp.g (s2) ?_)
    refine ⟨⟨_, _, rfl, rfl, ?_⟩⟩
    exact AvLe.refl _
theorem Star_out (n k : Nat) (D r : Int) (h : DOk n k D) (hr : ¬ (0 ≤ r ∧ r < ((k - 2 + 1) * (pts n).length : Nat))) : Sp CX 23 [specA n k D, int .i64 r] (.tup [.c (ix 0), .c (ix 0), .c (ix 2)]) := by
  have s := enter_ok n k D h
  have s2 := count_sp n D (k - 2) h.n0 h.n1 (by have := h.k1; omega)
  generalize (k - 2 + 1) * (pts n).length = c at *
  by_cases h0 : r < 0
  · refine fn_sp (C := CX) [] [] tysX_ok mixed Tryd.func23 rfl (by kernel_rfl) Tryd.ntmps23 rfl rfl ?_
    repeat' ((conv => whnf); first | refine Ob.g ?_ | refine WrOb.g ?_ | refine WrOb.u32 ?_ | refine WrOb.u64 ?_ | refine Cases.y ?_ | refine Cases.n ?_ | refine Idx.g rfl ?_ | refine Idx.z rfl ?_ | refine DrawOb.start ?_ | refine TryF.f ?_ | refine TryF.next rfl ?_ | refine TryF.other ?_ | refine TryA.g ?_ | refine TryA.next rfl ?_ | refine TryA.other ?_ | refine TryS.g ?_ | refine TryS.next rfl ?_ | refine TryS.other ?_ | refine TryG.g ?_ | refine TryG.next rfl ?_ | refine TryG.other ?_ | refine TryT.g ?_ | refine Sp.g (s) ?_ | refine Sp.g (s2) ?_)
    refine ⟨⟨_, _, rfl, rfl, ?_⟩⟩
    exact AvLe.refl _
  · have h1 : (c : Int) ≤ r := by omega
    refine fn_sp (C := CX) [] [] tysX_ok mixed Tryd.func23 rfl (by kernel_rfl) Tryd.ntmps23 rfl rfl ?_
    repeat' ((conv => whnf); first | refine Ob.g ?_ | refine WrOb.g ?_ | refine WrOb.u32 ?_ | refine WrOb.u64 ?_ | refine Cases.y ?_ | refine Cases.n ?_ | refine Idx.g rfl ?_ | refine Idx.z rfl ?_ | refine DrawOb.start ?_ | refine TryF.f ?_ | refine TryF.next rfl ?_ | refine TryF.other ?_ | refine TryA.g ?_ | refine TryA.next rfl ?_ | refine TryA.other ?_ | refine TryS.g ?_ | refine TryS.next rfl ?_ | refine TryS.other ?_ | refine TryG.g ?_ | refine TryG.next rfl ?_ | refine TryG.other ?_ | refine TryT.g ?_ | refine Sp.g (s) ?_ | refine Sp.g (s2) ?_)
    refine ⟨⟨_, _, rfl, rfl, ?_⟩⟩
    exact AvLe.refl _
theorem Symbol_ok (n k r : Nat) (D : Int) (h : DOk n k D) (hr : r < (k - 2 + 1) * (pts n).length) : Sp CX 18 [specA n k D, int .i64 r] (.tup [.agg [ix (r / (pts n).length : Nat), ix (pt n (r % (pts n).length) / n : Nat), ix (pt n (r % (pts n).length) % n : Nat)], .c (ix 0)]) := by
  have s := enter_ok n k D h
  have s2 := count_sp n D (k - 2) h.n0 h.n1 (by have := h.k1; omega)
  have hc := mcnt_le (w := k - 2) h.n1 (by have := h.k1; omega)
  have hl0 : 0 < (pts n).length := Nat.pos_of_ne_zero fun e => by rw [e, Nat.mul_zero] at hr; omega
  generalize (k - 2 + 1) * (pts n).length = c at *
  have hl := len_pts h.n1
  have e1 : (r : Int).tmod (pts n).length = ((r % (pts n).length : Nat) : Int) := (Int.ofNat_tmod _ _).symm
  have e2 : (r : Int).tdiv (pts n).length = ((r / (pts n).length : Nat) : Int) := (Int.ofNat_tdiv _ _).symm
  have hj := Nat.mod_lt r hl0
  refine fn_sp (C := CX) [] [] tysX_ok mixed Tryd.func18 rfl (by kernel_rfl) Tryd.ntmps18 rfl rfl ?_
  repeat' ((conv => whnf); first | (refine Idx.mk ⟨r % (pts n).length, by omega, hj, ?_⟩) | refine Ob.g ?_ | refine WrOb.g ?_ | refine WrOb.u32 ?_ | refine WrOb.u64 ?_ | refine Cases.y ?_ | refine Cases.n ?_ | refine Idx.g rfl ?_ | refine Idx.z rfl ?_ | refine DrawOb.start ?_ | refine TryF.f ?_ | refine TryF.next rfl ?_ | refine TryF.other ?_ | refine TryA.g ?_ | refine TryA.next rfl ?_ | refine TryA.other ?_ | refine TryS.g ?_ | refine TryS.next rfl ?_ | refine TryS.other ?_ | refine TryG.g ?_ | refine TryG.next rfl ?_ | refine TryG.other ?_ | refine TryT.g ?_ | refine Sp.g (s) ?_ | refine Sp.g (s2) ?_)
  refine ⟨⟨_, _, rfl, rfl, ?_⟩⟩
  exact AvLe.refl _
end Go.Proofs.YtedfcemebdlgfaaDoor

/- manin.Number, Star, walked. -/
namespace Go.Proofs.YtedfcemebdlgfaaDoor
open Go Go.RowKit Go.VG HP
theorem pIx_le {n y : Nat} (hn : 0 < n) (hy : y < n * n) : pIx n y ≤ (pts n).length := by
  cases h : copB n y with
  | true => exact Nat.le_of_lt (pIx_lt hn hy h)
  | false => rw [pIx_no h]; omega
theorem pSg_cases {n k : Nat} {D : Int} (h : DOk n k D) {y : Nat} (hy : y < n * n) : (copB n y = true ∧ (pSg n D y = 1 ∨ pSg n D y = -1)) ∨ (copB n y = false ∧ pSg n D y = 0) := by
  cases hc : copB n y with
  | true => exact .inl ⟨rfl, pSg_unit h.n0 h.dvd hy hc⟩
  | false => exact .inr ⟨rfl, pSg_no hc⟩
theorem Number_out (n k : Nat) (D i u v : Int) (h : DOk n k D) (hi : ¬ (0 ≤ i ∧ i ≤ (k - 2 : Nat))) : Sp CX 14 [specA n k D, manA i u v] (.tup [.c (ix 0), .c (ix 0), .c (ix 2)]) := by
  have s := enter_ok n k D h
  generalize k - 2 = w at *
  by_cases h0 : i < 0
  · refine fn_sp (C := CX) [] [] tysX_ok mixed Tryd.func14 rfl (by kernel_rfl) Tryd.ntmps14 rfl rfl ?_
    repeat' ((conv => whnf); first | refine Ob.g ?_ | refine WrOb.g ?_ | refine WrOb.u32 ?_ | refine WrOb.u64 ?_ | refine Cases.y ?_ | refine Cases.n ?_ | refine Idx.g rfl ?_ | refine Idx.z rfl ?_ | refine DrawOb.start ?_ | refine TryF.f ?_ | refine TryF.next rfl ?_ | refine TryF.other ?_ | refine TryA.g ?_ | refine TryA.next rfl ?_ | refine TryA.other ?_ | refine TryS.g ?_ | refine TryS.next rfl ?_ | refine TryS.other ?_ | refine TryG.g ?_ | refine TryG.next rfl ?_ | refine TryG.other ?_ | refine TryT.g ?_ | refine Sp.g (s) ?_)
    refine ⟨⟨_, _, rfl, rfl, ?_⟩⟩
    exact AvLe.refl _
  · have h1 : (w : Int) < i := by omega
    refine fn_sp (C := CX) [] [] tysX_ok mixed Tryd.func14 rfl (by kernel_rfl) Tryd.ntmps14 rfl rfl ?_
    repeat' ((conv => whnf); first | refine Ob.g ?_ | refine WrOb.g ?_ | refine WrOb.u32 ?_ | refine WrOb.u64 ?_ | refine Cases.y ?_ | refine Cases.n ?_ | refine Idx.g rfl ?_ | refine Idx.z rfl ?_ | refine DrawOb.start ?_ | refine TryF.f ?_ | refine TryF.next rfl ?_ | refine TryF.other ?_ | refine TryA.g ?_ | refine TryA.next rfl ?_ | refine TryA.other ?_ | refine TryS.g ?_ | refine TryS.next rfl ?_ | refine TryS.other ?_ | refine TryG.g ?_ | refine TryG.next rfl ?_ | refine TryG.other ?_ | refine TryT.g ?_ | refine Sp.g (s) ?_)
    refine ⟨⟨_, _, rfl, rfl, ?_⟩⟩
    exact AvLe.refl _
theorem Number_no (n k i : Nat) (D u v : Int) (h : DOk n k D) (hi : i ≤ k - 2) (hp : pSg n D (pr n u v) = 0) : Sp CX 14 [specA n k D, manA i u v] (.tup [.c (ix 0), .c (ix 0), .c (ix 12)]) := by
  have s := enter_ok n k D h
  have s2 := at_sp n D (k - 2) u v h.n0 h.n1
  unfold plV at s2
  generalize k - 2 = w at *
  refine fn_sp (C := CX) [] [] tysX_ok mixed Tryd.func14 rfl (by kernel_rfl) Tryd.ntmps14 rfl rfl ?_
  repeat' ((conv => whnf); first | refine Ob.g ?_ | refine WrOb.g ?_ | refine WrOb.u32 ?_ | refine WrOb.u64 ?_ | refine Cases.y ?_ | refine Cases.n ?_ | refine Idx.g rfl ?_ | refine Idx.z rfl ?_ | refine DrawOb.start ?_ | refine TryF.f ?_ | refine TryF.next rfl ?_ | refine TryF.other ?_ | refine TryA.g ?_ | refine TryA.next rfl ?_ | refine TryA.other ?_ | refine TryS.g ?_ | refine TryS.next rfl ?_ | refine TryS.other ?_ | refine TryG.g ?_ | refine TryG.next rfl ?_ | refine TryG.other ?_ | refine TryT.g ?_ | refine Sp.g (s) ?_ | refine Sp.g (s2) ?_)
  refine ⟨⟨_, _, rfl, rfl, ?_⟩⟩
  exact AvLe.refl _
theorem Number_ok (n k i : Nat) (D u v : Int) (h : DOk n k D) (hi : i ≤ k - 2) (hp : pSg n D (pr n u v) ≠ 0) : Sp CX 14 [specA n k D, manA i u v] (.tup [.c (ix (i * (pts n).length + pIx n (pr n u v) : Nat)), .c (ix (pSg n D (pr n u v))), .c (ix 0)]) := by
  have s := enter_ok n k D h
  have s2 := at_sp n D (k - 2) u v h.n0 h.n1
  have hl := len_pts h.n1
  have hq := pIx_le h.n0 (pr_lt (show 0 < n by have := h.n0; omega) u v)
  have hb : i * (pts n).length ≤ 22 * 14400 := Nat.mul_le_mul (by have := h.k1; omega) hl
  have e : ((i * (pts n).length + pIx n (pr n u v) : Nat) : Int) = (i : Int) * (pts n).length + (pIx n (pr n u v) : Nat) := by rw [Int.natCast_add, Int.natCast_mul]
  have e1 : (i : Int) * (pts n).length ≤ 22 * 14400 := by rw [← Int.natCast_mul]; omega
  have e2 : 0 ≤ (i : Int) * (pts n).length := Int.mul_nonneg (by omega) (by omega)
  rw [e]
  unfold plV at s2
  generalize k - 2 = w at *
  refine fn_sp (C := CX) [] [] tysX_ok mixed Tryd.func14 rfl (by kernel_rfl) Tryd.ntmps14 rfl rfl ?_
  repeat' ((conv => whnf); first | refine Ob.g ?_ | refine WrOb.g ?_ | refine WrOb.u32 ?_ | refine WrOb.u64 ?_ | refine Cases.y ?_ | refine Cases.n ?_ | refine Idx.g rfl ?_ | refine Idx.z rfl ?_ | refine DrawOb.start ?_ | refine TryF.f ?_ | refine TryF.next rfl ?_ | refine TryF.other ?_ | refine TryA.g ?_ | refine TryA.next rfl ?_ | refine TryA.other ?_ | refine TryS.g ?_ | refine TryS.next rfl ?_ | refine TryS.other ?_ | refine TryG.g ?_ | refine TryG.next rfl ?_ | refine TryG.other ?_ | refine TryT.g ?_ | refine Sp.g (s) ?_ | refine Sp.g (s2) ?_)
  refine ⟨⟨_, _, rfl, rfl, ?_⟩⟩
  exact AvLe.refl _
theorem acP_st {n x : Nat} : acP n x (-1) 0 0 1 = pr n (-((x / n : Nat) : Int)) ((x % n : Nat) : Int) := by
  unfold acP
  rw [show ((x / n : Nat) : Int) * (-1) + ((x % n : Nat) : Int) * 0 = -((x / n : Nat) : Int) by omega, show ((x / n : Nat) : Int) * 0 + ((x % n : Nat) : Int) * 1 = ((x % n : Nat) : Int) by omega]
set_option maxHeartbeats 16000000 in
set_option maxRecDepth 20000 in
theorem Star_ok (n k r : Nat) (D : Int) (h : DOk n k D) (hr : r < (k - 2 + 1) * (pts n).length) : Sp CX 23 [specA n k D, int .i64 r] (.tup [.c (ix (HP.stI n r)), .c (ix (HP.stS n D r)), .c (ix 0)]) := by
  have s := enter_ok n k D h
  have s2 := count_sp n D (k - 2) h.n0 h.n1 (by have := h.k1; omega)
  have hc := mcnt_le (w := k - 2) h.n1 (by have := h.k1; omega)
  have hl := len_pts h.n1
  have hl0 : 0 < (pts n).length := Nat.pos_of_ne_zero fun e => by rw [e, Nat.mul_zero] at hr; omega
  have hrl : r / (pts n).length < k - 2 + 1 := Nat.div_lt_of_lt_mul (by rw [Nat.mul_comm]; exact hr)
  have hk1 := h.k1
  have e1 : (r : Int).tmod (pts n).length = ((r % (pts n).length : Nat) : Int) := (Int.ofNat_tmod _ _).symm
  have e2 : (r : Int).tdiv (pts n).length = ((r / (pts n).length : Nat) : Int) := (Int.ofNat_tdiv _ _).symm
  have hj := Nat.mod_lt r hl0
  have hpt := pt_lt hj
  have hn0 := h.n0
  have hn1 := h.n1
  have hu1 : 0 ≤ ((pt n (r % (pts n).length) / n : Nat) : Int) ∧ ((pt n (r % (pts n).length) / n : Nat) : Int) < n := ⟨Int.natCast_nonneg _, by exact_mod_cast Nat.div_lt_of_lt_mul hpt⟩
  have s3 := at_sp n D (k - 2) (-((pt n (r % (pts n).length) / n : Nat) : Int)) ((pt n (r % (pts n).length) % n : Nat) : Int) h.n0 h.n1
  rw [← acP_st] at s3
  have hy := acP_lt (show 0 < n by omega) (pt n (r % (pts n).length)) (-1) 0 0 1
  have hq := pIx_le h.n0 hy
  have hsg : -1 ≤ pSg n D (acP n (pt n (r % (pts n).length)) (-1) 0 0 1) ∧ pSg n D (acP n (pt n (r % (pts n).length)) (-1) 0 0 1) ≤ 1 := by rcases pSg_cases h hy with ⟨_, h | h⟩ | ⟨_, h⟩ <;> omega
  unfold HP.stI HP.stS
  rw [pow_neg_one]
  unfold plV at s3
  generalize acP n (pt n (r % (pts n).length)) (-1) 0 0 1 = y at *
  generalize (k - 2 + 1) * (pts n).length = c at *
  have hq2 : r / (pts n).length ≤ 22 := by omega
  generalize ei : r / (pts n).length = i at *
  have hb : i * (pts n).length ≤ 22 * 14400 := Nat.mul_le_mul hq2 hl
  have e : ((i * (pts n).length + pIx n y : Nat) : Int) = (i : Int) * (pts n).length + (pIx n y : Nat) := by rw [Int.natCast_add, Int.natCast_mul]
  have e3 : (i : Int) * (pts n).length ≤ 22 * 14400 := by rw [← Int.natCast_mul]; omega
  have e4 : 0 ≤ (i : Int) * (pts n).length := Int.mul_nonneg (by omega) (by omega)
  have em : ((r : Int).tdiv (pts n).length).tmod 2 = ((i % 2 : Nat) : Int) := by rw [e2]; exact (Int.ofNat_tmod i 2).symm
  have em2 : (i : Int).tmod 2 = ((i % 2 : Nat) : Int) := (Int.ofNat_tmod i 2).symm
  have em4 : (r : Int).tdiv (pts n).length * (pts n).length = (i : Int) * (pts n).length := by rw [e2]
  rw [e]
  by_cases h2 : i % 2 = 0
  · rw [if_pos h2, Int.mul_one]
    refine fn_sp (C := CX) [] [] tysX_ok mixed Tryd.func23 rfl (by kernel_rfl) Tryd.ntmps23 rfl rfl ?_
    repeat' ((conv => whnf); first | (refine Idx.mk ⟨r % (pts n).length, by omega, hj, ?_⟩) | refine Ob.g ?_ | refine WrOb.g ?_ | refine WrOb.u32 ?_ | refine WrOb.u64 ?_ | refine Cases.y ?_ | refine Cases.n ?_ | refine Idx.g rfl ?_ | refine Idx.z rfl ?_ | refine DrawOb.start ?_ | refine TryF.f ?_ | refine TryF.next rfl ?_ | refine TryF.other ?_ | refine TryA.g ?_ | refine TryA.next rfl ?_ | refine TryA.other ?_ | refine TryS.g ?_ | refine TryS.next rfl ?_ | refine TryS.other ?_ | refine TryG.g ?_ | refine TryG.next rfl ?_ | refine TryG.other ?_ | refine TryT.g ?_ | refine Sp.g (s) ?_ | refine Sp.g (s2) ?_ | refine Sp.g (s3) ?_)
    refine ⟨⟨_, _, rfl, rfl, ?_⟩⟩
    exact .tup (.cons (.int (by omega)) (.cons (.refl _) (.cons (.refl _) .nil)))
  · rw [if_neg h2, Int.mul_neg, Int.mul_one]
    refine fn_sp (C := CX) [] [] tysX_ok mixed Tryd.func23 rfl (by kernel_rfl) Tryd.ntmps23 rfl rfl ?_
    repeat' ((conv => whnf); first | (refine Idx.mk ⟨r % (pts n).length, by omega, hj, ?_⟩) | refine Ob.g ?_ | refine WrOb.g ?_ | refine WrOb.u32 ?_ | refine WrOb.u64 ?_ | refine Cases.y ?_ | refine Cases.n ?_ | refine Idx.g rfl ?_ | refine Idx.z rfl ?_ | refine DrawOb.start ?_ | refine TryF.f ?_ | refine TryF.next rfl ?_ | refine TryF.other ?_ | refine TryA.g ?_ | refine TryA.next rfl ?_ | refine TryA.other ?_ | refine TryS.g ?_ | refine TryS.next rfl ?_ | refine TryS.other ?_ | refine TryG.g ?_ | refine TryG.next rfl ?_ | refine TryG.other ?_ | refine TryT.g ?_ | refine Sp.g (s) ?_ | refine Sp.g (s2) ?_ | refine Sp.g (s3) ?_)
    refine ⟨⟨_, _, rfl, rfl, ?_⟩⟩
    exact .tup (.cons (.int (by omega)) (.cons (.refl _) (.cons (.refl _) .nil)))
end Go.Proofs.YtedfcemebdlgfaaDoor

