/- Own texts joined: MnU, MnV. -/
import Derived.Test.YtedfcemebdlgfaaDoorPkMnP
/- The reference's Relations, walked. -/
namespace Go.Proofs.YtedfcemebdlgfaaDoor
open Go Go.RowKit Go.VG HP
/-- a matrix as it is written -/
def m4L (g : Int × Int × Int × Int) (j : Nat) : Leaf := getL [ix g.1, ix g.2.1, ix g.2.2.1, ix g.2.2.2] j
/-- the matrices of the relations -/
def gM (p q : Nat) : Int × Int × Int × Int := if p = 0 then (0, -1, 1, 0) else if q = 0 then (0, -1, 1, -1) else (-1, 1, -1, 0)
def gN (p : Nat) : Nat := if p = 0 then 1 else 2
theorem gM_ok (p q : Nat) : MOk (gM p q).1 (gM p q).2.1 (gM p q).2.2.1 (gM p q).2.2.2 := by
  unfold gM
  split
  · decide
  · split <;> decide
def uZ (r m : Nat) : Int := if m = r then 1 else 0
def vG (n : Nat) (D : Int) (w r p q m : Nat) : Int := vS n D w r (gM p q).1 (gM p q).2.1 (gM p q).2.2.1 (gM p q).2.2.2 m
/-- row r of part p, so far -/
def RZ (n : Nat) (D : Int) (w p r q m : Nat) : Int := uZ r m + sumI (fun q' => vG n D w r p q' m) q
/-- the relations -/
def relZ (n : Nat) (D : Int) (w cnt x : Nat) : Int := RZ n D w (x / cnt / cnt) (x / cnt % cnt) (gN (x / cnt / cnt)) (x % cnt)
theorem rel_at {n w cnt r m p : Nat} {D : Int} (hm : m < cnt) (hr : r < cnt) : relZ n D w cnt (cnt * (cnt * p + r) + m) = RZ n D w p r (gN p) m := by
  unfold relZ
  have e1 : (cnt * (cnt * p + r) + m) / cnt = cnt * p + r := by rw [Nat.mul_add_div (by omega), Nat.div_eq_of_lt hm, Nat.add_zero]
  have e2 : (cnt * (cnt * p + r) + m) % cnt = m := by rw [Nat.mul_add_mod, Nat.mod_eq_of_lt hm]
  have e3 : (cnt * p + r) / cnt = p := by rw [Nat.mul_add_div (by omega), Nat.div_eq_of_lt hr, Nat.add_zero]
  have e4 : (cnt * p + r) % cnt = r := by rw [Nat.mul_add_mod, Nat.mod_eq_of_lt hr]
  rw [e1, e2, e3, e4]
theorem app_row {Z G Y : Nat → Int} {cnt R : Nat} (hZ : ∀ x, x < cnt * R → Z x = G x) (hY : ∀ m, m < cnt → Y m = G (cnt * R + m)) : ∀ x, x < cnt * (R + 1) → appZ Int Z Y (cnt * R) x = G x := fun x hx => by
  have hx : x < cnt * R + cnt := hx
  unfold appZ
  by_cases h : x < cnt * R
  · rw [if_pos h, hZ x h]
  · rw [if_neg h, hY (x - cnt * R) (by omega), show cnt * R + (x - cnt * R) = x by omega]
/-- the bound of all coefficients -/
def MB : Nat := 2147483648 ^ 22
theorem vS_bd {n k r : Nat} {D : Int} (h : DOk n k D) {a b c d : Int} (hM : MOk a b c d) (_ : r < (k - 2 + 1) * (pts n).length) (m : Nat) : (vS n D (k - 2) r a b c d m).natAbs ≤ MB := by
  have hn : 0 < n := h.n0
  have hy := acP_lt hn (pt n (r % (pts n).length)) a b c d
  have hp : (plm 1 (r / (pts n).length) a b c d (k - 2) (m / (pts n).length)).natAbs ≤ MB := by
    refine Nat.le_trans (plm_bd (by decide) hM _ _) ?_
    exact Nat.pow_le_pow_right (by omega) (by have := h.k1; omega)
  unfold vS
  split
  · rw [Int.natAbs_mul]
    rcases pSg_cases h hy with ⟨_, e | e⟩ | ⟨_, e⟩
    · rw [e]; simpa using hp
    · rw [e]; simpa using hp
    · rw [e]; simp
  · exact Nat.zero_le _
theorem MB_ln {z : Int} {c : Nat} (h : z.natAbs ≤ c * MB + c) (hc : c ≤ 1000) : ln z.natAbs ≤ 100 := by
  refine Nat.le_trans (ln_le (k := 24) (Nat.lt_of_le_of_lt h ?_)) (by omega)
  have h1 : c * MB ≤ 1000 * MB := Nat.mul_le_mul_right _ hc
  refine Nat.lt_of_le_of_lt (Nat.add_le_add h1 hc) ?_
  decide +kernel
theorem RZ_bd {n k r : Nat} {D : Int} (h : DOk n k D) (hr : r < (k - 2 + 1) * (pts n).length) (p m : Nat) : ∀ q, (RZ n D (k - 2) p r q m).natAbs ≤ q * MB + 1
  | 0 => by
    show (uZ r m + 0).natAbs ≤ _
    rw [Int.add_zero]
    unfold uZ
    split
    · exact Nat.le_add_left _ _
    · exact Nat.zero_le _
  | q + 1 => by
    have ih := RZ_bd h hr p m q
    have e : RZ n D (k - 2) p r (q + 1) m = RZ n D (k - 2) p r q m + vG n D (k - 2) r p q m := by
      unfold RZ
      rw [sumI]
      omega
    have h2 : (vG n D (k - 2) r p q m).natAbs ≤ MB := vS_bd h (gM_ok p q) hr m
    rw [e]
    have := Int.natAbs_add_le (RZ n D (k - 2) p r q m) (vG n D (k - 2) r p q m)
    rw [Nat.succ_mul]
    omega
theorem RZ_ln {n k r : Nat} {D : Int} (h : DOk n k D) (hr : r < (k - 2 + 1) * (pts n).length) (p q m : Nat) (hq : q ≤ 2) : ln (RZ n D (k - 2) p r q m).natAbs ≤ 100 := by
  have h1 := RZ_bd h hr p m q
  have h2 : q * MB ≤ 2 * MB := Nat.mul_le_mul_right _ hq
  exact MB_ln (c := 2) (by omega) (by omega)
theorem vS_ln {n k r : Nat} {D : Int} (h : DOk n k D) {a b c d : Int} (hM : MOk a b c d) (hr : r < (k - 2 + 1) * (pts n).length) (m : Nat) : ln (vS n D (k - 2) r a b c d m).natAbs ≤ 100 := by
  have h1 := vS_bd h hM hr m
  exact MB_ln (c := 1) (by omega) (by omega)
theorem uZ_ln (r m : Nat) : ln (uZ r m).natAbs ≤ 100 := by
  have : (uZ r m).natAbs ≤ 1 := by unfold uZ; split <;> decide
  exact MB_ln (c := 1) (by omega) (by omega)
theorem S40_sp : Sp CX 30 [] (matA 0 (-1) 1 0) := by
  refine fn_sp (C := CX) [] [] tysX_ok mixed Tryd.func30 rfl (by kernel_rfl) Tryd.ntmps30 rfl rfl ?_
  repeat' ((conv => whnf); first | refine Ob.g ?_ | refine WrOb.g ?_ | refine WrOb.u32 ?_ | refine WrOb.u64 ?_ | refine Cases.y ?_ | refine Cases.n ?_ | refine Idx.g rfl ?_ | refine Idx.z rfl ?_ | refine DrawOb.start ?_ | refine TryF.f ?_ | refine TryF.next rfl ?_ | refine TryF.other ?_ | refine TryA.g ?_ | refine TryA.next rfl ?_ | refine TryA.other ?_ | refine TryS.g ?_ | refine TryS.next rfl ?_ | refine TryS.other ?_ | refine TryG.g ?_ | refine TryG.next rfl ?_ | refine TryG.other ?_ | refine TryT.g ?_)
  refine ⟨⟨_, _, rfl, rfl, ?_⟩⟩
  exact AvLe.refl _
theorem R40_sp : Sp CX 32 [] (matA 0 (-1) 1 (-1)) := by
  refine fn_sp (C := CX) [] [] tysX_ok mixed Tryd.func32 rfl (by kernel_rfl) Tryd.ntmps32 rfl rfl ?_
  repeat' ((conv => whnf); first | refine Ob.g ?_ | refine WrOb.g ?_ | refine WrOb.u32 ?_ | refine WrOb.u64 ?_ | refine Cases.y ?_ | refine Cases.n ?_ | refine Idx.g rfl ?_ | refine Idx.z rfl ?_ | refine DrawOb.start ?_ | refine TryF.f ?_ | refine TryF.next rfl ?_ | refine TryF.other ?_ | refine TryA.g ?_ | refine TryA.next rfl ?_ | refine TryA.other ?_ | refine TryS.g ?_ | refine TryS.next rfl ?_ | refine TryS.other ?_ | refine TryG.g ?_ | refine TryG.next rfl ?_ | refine TryG.other ?_ | refine TryT.g ?_)
  refine ⟨⟨_, _, rfl, rfl, ?_⟩⟩
  exact AvLe.refl _
theorem R240_sp : Sp CX 31 [] (matA (-1) 1 (-1) 0) := by
  refine fn_sp (C := CX) [] [] tysX_ok mixed Tryd.func31 rfl (by kernel_rfl) Tryd.ntmps31 rfl rfl ?_
  repeat' ((conv => whnf); first | refine Ob.g ?_ | refine WrOb.g ?_ | refine WrOb.u32 ?_ | refine WrOb.u64 ?_ | refine Cases.y ?_ | refine Cases.n ?_ | refine Idx.g rfl ?_ | refine Idx.z rfl ?_ | refine DrawOb.start ?_ | refine TryF.f ?_ | refine TryF.next rfl ?_ | refine TryF.other ?_ | refine TryA.g ?_ | refine TryA.next rfl ?_ | refine TryA.other ?_ | refine TryS.g ?_ | refine TryS.next rfl ?_ | refine TryS.other ?_ | refine TryG.g ?_ | refine TryG.next rfl ?_ | refine TryG.other ?_ | refine TryT.g ?_)
  refine ⟨⟨_, _, rfl, rfl, ?_⟩⟩
  exact AvLe.refl _
theorem Unit_sp (cnt r : Nat) (hc : cnt ≤ 1000000) (hr : r < cnt) : Sp CX 33 [int .i64 cnt, int .i64 r] (zsA (uZ r) cnt) := by
  have sz := Zs_sp (fun _ => 0) cnt hc (fun _ _ => by omega) (fun _ _ => by omega)
  have s1 := Z_sp 1 (by omega) (by omega)
  refine fn_sp (C := CX) [] [1] tysX_ok mixed Tryd.func33 rfl (by kernel_rfl) Tryd.ntmps33 rfl rfl ?_
  repeat' ((conv => whnf); first | (refine Ob.mk ⟨rfl, by omega, by decide⟩ ?_) | refine Ob.g ?_ | refine WrOb.g ?_ | refine WrOb.u32 ?_ | refine WrOb.u64 ?_ | refine Cases.y ?_ | refine Cases.n ?_ | refine Idx.g rfl ?_ | refine Idx.z rfl ?_ | refine DrawOb.start ?_ | refine TryF.f ?_ | refine TryF.next rfl ?_ | refine TryF.other ?_ | refine TryA.g ?_ | refine TryA.next rfl ?_ | refine TryA.other ?_ | refine TryS.g ?_ | refine TryS.next rfl ?_ | refine TryS.other ?_ | refine TryG.g ?_ | refine TryG.next rfl ?_ | refine TryG.other ?_ | refine TryT.g ?_)
  refine ⟨⟨Int, fun z _ => ix z, fun _ => 0, cnt, rfl, mk_ix _, ?_⟩⟩
  repeat' ((conv => whnf); first | (refine Idx.mk ⟨r, rfl, hr, ?_⟩) | refine Ob.g ?_ | refine WrOb.g ?_ | refine WrOb.u32 ?_ | refine WrOb.u64 ?_ | refine Cases.y ?_ | refine Cases.n ?_ | refine Idx.g rfl ?_ | refine Idx.z rfl ?_ | refine DrawOb.start ?_ | refine TryF.f ?_ | refine TryF.next rfl ?_ | refine TryF.other ?_ | refine TryA.g ?_ | refine TryA.next rfl ?_ | refine TryA.other ?_ | refine TryS.g ?_ | refine TryS.next rfl ?_ | refine TryS.other ?_ | refine TryG.g ?_ | refine TryG.next rfl ?_ | refine TryG.other ?_ | refine TryT.g ?_ | refine SpR.call (sz) (ArgsLe.refl _) rfl rfl ?_ | refine Sp.g (s1) ?_)
  refine ⟨⟨(1 : Int), rfl, ?_⟩⟩
  repeat' ((conv => whnf); first | refine Ob.g ?_ | refine WrOb.g ?_ | refine WrOb.u32 ?_ | refine WrOb.u64 ?_ | refine Cases.y ?_ | refine Cases.n ?_ | refine Idx.g rfl ?_ | refine Idx.z rfl ?_ | refine DrawOb.start ?_ | refine TryF.f ?_ | refine TryF.next rfl ?_ | refine TryF.other ?_ | refine TryA.g ?_ | refine TryA.next rfl ?_ | refine TryA.other ?_ | refine TryS.g ?_ | refine TryS.next rfl ?_ | refine TryS.other ?_ | refine TryG.g ?_ | refine TryG.next rfl ?_ | refine TryG.other ?_ | refine TryT.g ?_)
  refine ⟨⟨_, _, rfl, rfl, ?_⟩⟩
  exact .leaf (.sl fun i j _ _ => .refl _)
set_option maxHeartbeats 8000000 in
set_option maxRecDepth 20000 in
theorem plus40_sp (A B : Nat → Int) (n : Nat) (hn : n ≤ 1000000) (hA : ∀ i, i < n → ln (A i).natAbs ≤ 1000) (hB : ∀ i, i < n → ln (B i).natAbs ≤ 1000) : Sp CX 64 [zsA A n, zsA B n] (zsA (fun m => A m + B m) n) := by
  refine fn_sp (C := CX) [] [0] tysX_ok mixed Tryd.func64 rfl (by kernel_rfl) Tryd.ntmps64 rfl rfl ?_
  repeat' ((conv => whnf); first | refine Ob.g ?_ | refine WrOb.g ?_ | refine WrOb.u32 ?_ | refine WrOb.u64 ?_ | refine Cases.y ?_ | refine Cases.n ?_ | refine Idx.g rfl ?_ | refine Idx.z rfl ?_ | refine DrawOb.start ?_ | refine TryF.f ?_ | refine TryF.next rfl ?_ | refine TryF.other ?_ | refine TryA.g ?_ | refine TryA.next rfl ?_ | refine TryA.other ?_ | refine TryS.g ?_ | refine TryS.next rfl ?_ | refine TryS.other ?_ | refine TryG.g ?_ | refine TryG.next rfl ?_ | refine TryG.other ?_ | refine TryT.g ?_)
  refine ⟨⟨Nat × (Nat → Int), fun (k, H) => ⟨[(0, zsA A n), (1, zsA B n), (5, .v (.c (.row 0))), (6, int .i64 k)], [(0, .rw 2 69 false Int zL H k)], 1⟩, fun (k, H) => k ≤ n ∧ ∀ j, j < k → H j = A j + B j, fun (k, _) => n - k, ⟨(0, fun _ => 0), [.n 5 0 2 69], ⟨Nat.zero_le _, fun j hj => absurd hj (Nat.not_lt_zero _)⟩, Ent.g⟩, ?_⟩⟩
  rintro ⟨k, H⟩ ⟨hk, hH⟩
  by_cases hlt : k < n
  · have s := rAdd_sp (A k) (B k) (by have := hA k hlt; omega) (by have := hB k hlt; omega)
    repeat' ((conv => whnf); first | refine Ob.g ?_ | refine WrOb.g ?_ | refine WrOb.u32 ?_ | refine WrOb.u64 ?_ | refine Cases.y ?_ | refine Cases.n ?_ | refine Idx.g rfl ?_ | refine Idx.z rfl ?_ | refine DrawOb.start ?_ | refine TryF.f ?_ | refine TryF.next rfl ?_ | refine TryF.other ?_ | refine TryA.g ?_ | refine TryA.next rfl ?_ | refine TryA.other ?_ | refine TryS.g ?_ | refine TryS.next rfl ?_ | refine TryS.other ?_ | refine TryG.g ?_ | refine TryG.next rfl ?_ | refine TryG.other ?_ | refine TryT.g ?_ | refine Sp.g (s) ?_)
    refine ⟨⟨fun _ => A k + B k, one_z, fun _ j _ hj => zL_pure _ j hj, ?_⟩⟩
    repeat' ((conv => whnf); first | refine Ob.g ?_ | refine WrOb.g ?_ | refine WrOb.u32 ?_ | refine WrOb.u64 ?_ | refine Cases.y ?_ | refine Cases.n ?_ | refine Idx.g rfl ?_ | refine Idx.z rfl ?_ | refine DrawOb.start ?_ | refine TryF.f ?_ | refine TryF.next rfl ?_ | refine TryF.other ?_ | refine TryA.g ?_ | refine TryA.next rfl ?_ | refine TryA.other ?_ | refine TryS.g ?_ | refine TryS.next rfl ?_ | refine TryS.other ?_ | refine TryG.g ?_ | refine TryG.next rfl ?_ | refine TryG.other ?_ | refine TryT.g ?_)
    exact ⟨(k + 1, _), [.s 0 12], ⟨hlt, fun j hj => by
      show appZ Int H (fun _ => A k + B k) k j = A j + B j
      unfold appZ
      by_cases h : j < k
      · rw [if_pos h]; exact hH j h
      · rw [if_neg h, show j = k by omega]⟩, by show n - (k + 1) < n - k; omega, Ent.g⟩
  · obtain rfl : k = n := by omega
    repeat' ((conv => whnf); first | refine Ob.g ?_ | refine WrOb.g ?_ | refine WrOb.u32 ?_ | refine WrOb.u64 ?_ | refine Cases.y ?_ | refine Cases.n ?_ | refine Idx.g rfl ?_ | refine Idx.z rfl ?_ | refine DrawOb.start ?_ | refine TryF.f ?_ | refine TryF.next rfl ?_ | refine TryF.other ?_ | refine TryA.g ?_ | refine TryA.next rfl ?_ | refine TryA.other ?_ | refine TryS.g ?_ | refine TryS.next rfl ?_ | refine TryS.other ?_ | refine TryG.g ?_ | refine TryG.next rfl ?_ | refine TryG.other ?_ | refine TryT.g ?_)
    refine ⟨⟨_, _, rfl, rfl, ?_⟩⟩
    exact .leaf (.sl fun i j hi _ => by rw [hH i hi]; exact .refl _)
def zmA (r c : Int) (Z : Nat → Int) (n : Nat) : V1 := .agg [ix r, ix c, zsL Z n]
theorem rRelations_bad (L K D : Int) (h : dchk L K D ≠ 0) : Sp CX 39 [specA L K D] (.tup [.agg [ix 0, ix 0, .x (.slice none 0 0)], .c (ix (dchk L K D))]) := by
  have s := rCount_bad L K D h
  obtain ⟨e, he⟩ : ∃ e, e = dchk L K D := ⟨_, rfl⟩
  rw [← he] at s h ⊢
  refine fn_sp (C := CX) [] [] tysX_ok mixed Tryd.func39 rfl (by kernel_rfl) Tryd.ntmps39 rfl rfl ?_
  repeat' ((conv => whnf); first | refine Ob.g ?_ | refine WrOb.g ?_ | refine WrOb.u32 ?_ | refine WrOb.u64 ?_ | refine Cases.y ?_ | refine Cases.n ?_ | refine Idx.g rfl ?_ | refine Idx.z rfl ?_ | refine DrawOb.start ?_ | refine TryF.f ?_ | refine TryF.next rfl ?_ | refine TryF.other ?_ | refine TryA.g ?_ | refine TryA.next rfl ?_ | refine TryA.other ?_ | refine TryS.g ?_ | refine TryS.next rfl ?_ | refine TryS.other ?_ | refine TryG.g ?_ | refine TryG.next rfl ?_ | refine TryG.other ?_ | refine TryT.g ?_ | refine Sp.g (s) ?_)
  refine ⟨⟨_, _, rfl, rfl, ?_⟩⟩
  exact AvLe.refl _
set_option maxHeartbeats 16000000 in
set_option maxRecDepth 20000 in
theorem rRelations_ok (n k cnt : Nat) (D : Int) (h : DOk n k D) (ec : cnt = (k - 2 + 1) * (pts n).length) (hc : cnt ≤ 72) : Sp CX 39 [specA n k D] (.tup [zmA (2 * (cnt : Int)) cnt (relZ n D (k - 2) cnt) (cnt * (cnt + cnt)), .c (ix 0)]) := by
  have s := rCount_ok n k D h
  rw [← ec] at s
  have hap := fun r a b c d (hr : r < cnt) hM => rApply_ok n k r D a b c d h (ec ▸ hr) hM
  rw [← ec] at hap
  have hu := fun r hr => Unit_sp cnt r (by omega) hr
  have hp1 : ∀ r, r < cnt → ∀ p q, q ≤ 2 → Sp CX 64 [zsA (fun m => RZ n D (k - 2) p r q m) cnt, zsA (vG n D (k - 2) r p q) cnt] (zsA (fun m => RZ n D (k - 2) p r q m + vG n D (k - 2) r p q m) cnt) := fun r hr p q hq => plus40_sp _ _ cnt (by omega) (fun i _ => Nat.le_trans (RZ_ln h (ec ▸ hr) p q i hq) (by omega)) (fun i _ => Nat.le_trans (vS_ln h (gM_ok p q) (ec ▸ hr) i) (by omega))
  have eRS : ∀ r p q m, RZ n D (k - 2) p r q m + vG n D (k - 2) r p q m = RZ n D (k - 2) p r (q + 1) m := fun r p q m => by unfold RZ; rw [sumI]; omega
  have eR0 : ∀ r p m, uZ r m = RZ n D (k - 2) p r 0 m := fun r p m => by unfold RZ; show uZ r m = uZ r m + 0; omega
  have hcc : cnt * cnt ≤ 72 * 72 := Nat.mul_le_mul hc hc
  refine fn_sp (C := CX) [] [3] tysX_ok mixed Tryd.func39 rfl (by kernel_rfl) Tryd.ntmps39 rfl rfl ?_
  repeat' ((conv => whnf); first | refine Ob.g ?_ | refine WrOb.g ?_ | refine WrOb.u32 ?_ | refine WrOb.u64 ?_ | refine Cases.y ?_ | refine Cases.n ?_ | refine Idx.g rfl ?_ | refine Idx.z rfl ?_ | refine DrawOb.start ?_ | refine TryF.f ?_ | refine TryF.next rfl ?_ | refine TryF.other ?_ | refine TryA.g ?_ | refine TryA.next rfl ?_ | refine TryA.other ?_ | refine TryS.g ?_ | refine TryS.next rfl ?_ | refine TryS.other ?_ | refine TryG.g ?_ | refine TryG.next rfl ?_ | refine TryG.other ?_ | refine TryT.g ?_ | refine Sp.g (s) ?_)
  refine ⟨⟨Nat × (Nat → Int), fun (r, Z) => ⟨[(1, .v (.c (.loc 0 0))), (2, .v (.c (.loc 1 0))), (4, int .i64 cnt), (6, .v (.c (.loc 2 0))), (7, int .i64 r)], [(3, .rw 2 69 false Int zL Z (cnt * r)), (2, .st [ix (2 * (cnt : Int)), ix cnt, .row 3]), (1, .st [ix 0, ix 0, .x (.slice none 0 0)]), (0, .st [ix n, ix k, ix D])], 4⟩, fun (r, Z) => r ≤ cnt ∧ ∀ x, x < cnt * r → Z x = relZ n D (k - 2) cnt x, fun (r, _) => cnt - r, ⟨(0, fun _ => 0), [.m 2 2 3 2 69], ⟨Nat.zero_le _, fun x hx => absurd hx (Nat.not_lt_zero _)⟩, Ent.g⟩, ?_⟩⟩
  rintro ⟨r, Z⟩ ⟨r1, hZ⟩
  by_cases hr : r < cnt
  · have s1 := S40_sp
    have s2 := hap r 0 (-1) 1 0 hr (gM_ok 0 0)
    have s3 := hu r hr
    have s4 := hp1 r hr 0 0 (by omega)
    have hb : cnt * r ≤ 72 * 72 := Nat.mul_le_mul hc (by omega)
    have hn := app_row (G := relZ n D (k - 2) cnt) (Y := fun m => RZ n D (k - 2) 0 r 0 m + vG n D (k - 2) r 0 0 m) hZ (fun m hm => by
      have := rel_at (n := n) (D := D) (w := k - 2) (p := 0) hm hr
      rw [Nat.mul_zero, Nat.zero_add] at this
      rw [this, eRS]
      rfl)
    clear hZ hap hu hp1
    repeat' ((conv => whnf); first | refine Ob.g ?_ | refine WrOb.g ?_ | refine WrOb.u32 ?_ | refine WrOb.u64 ?_ | refine Cases.y ?_ | refine Cases.n ?_ | refine Idx.g rfl ?_ | refine Idx.z rfl ?_ | refine DrawOb.start ?_ | refine TryF.f ?_ | refine TryF.next rfl ?_ | refine TryF.other ?_ | refine TryA.g ?_ | refine TryA.next rfl ?_ | refine TryA.other ?_ | refine TryS.g ?_ | refine TryS.next rfl ?_ | refine TryS.other ?_ | refine TryG.g ?_ | refine TryG.next rfl ?_ | refine TryG.other ?_ | refine TryT.g ?_ | refine Sp.g (s1) ?_ | refine Sp.g (s2) ?_ | refine Sp.g (s3) ?_ | refine Sp.call (s4) (.cons (.leaf (.sl fun i j _ _ => by rw [eR0 r 0 i]; exact .refl _)) (.cons (.refl _) .nil)) rfl (AvLe.refl _) ?_)
    refine ⟨⟨fun m => RZ n D (k - 2) 0 r 0 m + vG n D (k - 2) r 0 0 m, fun i j _ _ => .refl _, fun _ j _ hj => zL_pure _ j hj, ?_⟩⟩
    repeat' ((conv => whnf); first | refine Ob.g ?_ | refine WrOb.g ?_ | refine WrOb.u32 ?_ | refine WrOb.u64 ?_ | refine Cases.y ?_ | refine Cases.n ?_ | refine Idx.g rfl ?_ | refine Idx.z rfl ?_ | refine DrawOb.start ?_ | refine TryF.f ?_ | refine TryF.next rfl ?_ | refine TryF.other ?_ | refine TryA.g ?_ | refine TryA.next rfl ?_ | refine TryA.other ?_ | refine TryS.g ?_ | refine TryS.next rfl ?_ | refine TryS.other ?_ | refine TryG.g ?_ | refine TryG.next rfl ?_ | refine TryG.other ?_ | refine TryT.g ?_)
    exact ⟨(r + 1, _), [.s 3 19], ⟨hr, hn⟩, by show cnt - (r + 1) < cnt - r; omega, Ent.g⟩
  · obtain rfl : r = cnt := by omega
    repeat' ((conv => whnf); first | refine Ob.g ?_ | refine WrOb.g ?_ | refine WrOb.u32 ?_ | refine WrOb.u64 ?_ | refine Cases.y ?_ | refine Cases.n ?_ | refine Idx.g rfl ?_ | refine Idx.z rfl ?_ | refine DrawOb.start ?_ | refine TryF.f ?_ | refine TryF.next rfl ?_ | refine TryF.other ?_ | refine TryA.g ?_ | refine TryA.next rfl ?_ | refine TryA.other ?_ | refine TryS.g ?_ | refine TryS.next rfl ?_ | refine TryS.other ?_ | refine TryG.g ?_ | refine TryG.next rfl ?_ | refine TryG.other ?_ | refine TryT.g ?_)
    refine ⟨⟨Nat × (Nat → Int), fun (r', Z) => ⟨[(1, .v (.c (.loc 0 0))), (2, .v (.c (.loc 1 0))), (4, int .i64 r), (6, .v (.c (.loc 2 0))), (10, int .i64 r')], [(3, .rw 2 69 false Int zL Z (r * (r + r'))), (2, .st [ix (2 * (r : Int)), ix r, .row 3]), (1, .st [ix 0, ix 0, .x (.slice none 0 0)]), (0, .st [ix n, ix k, ix D])], 4⟩, fun (r', Z) => r' ≤ r ∧ ∀ x, x < r * (r + r') → Z x = relZ n D (k - 2) r x, fun (r', _) => r - r', ⟨(0, Z), [], ⟨Nat.zero_le _, hZ⟩, Ent.g⟩, ?_⟩⟩
    clear hZ
    rintro ⟨r', Z⟩ ⟨r1', hZ⟩
    by_cases hr' : r' < r
    · have s1 := R40_sp
      have s2 := R240_sp
      have s3 := hap r' 0 (-1) 1 (-1) hr' (gM_ok 1 0)
      have s3' := hap r' (-1) 1 (-1) 0 hr' (gM_ok 1 1)
      have s4 := hu r' hr'
      have s5 := hp1 r' hr' 1 0 (by omega)
      have s6 := hp1 r' hr' 1 1 (by omega)
      have hb : r * (r + r') ≤ 72 * 144 := Nat.mul_le_mul hc (by omega)
      have hn := app_row (G := relZ n D (k - 2) r) (Y := fun m => RZ n D (k - 2) 1 r' 1 m + vG n D (k - 2) r' 1 1 m) hZ (fun m hm => by
        have := rel_at (n := n) (D := D) (w := k - 2) (p := 1) hm hr'
        rw [Nat.mul_one] at this
        rw [this, eRS]
        rfl)
      clear hZ hap hu hp1
      repeat' ((conv => whnf); first | refine Ob.g ?_ | refine WrOb.g ?_ | refine WrOb.u32 ?_ | refine WrOb.u64 ?_ | refine Cases.y ?_ | refine Cases.n ?_ | refine Idx.g rfl ?_ | refine Idx.z rfl ?_ | refine DrawOb.start ?_ | refine TryF.f ?_ | refine TryF.next rfl ?_ | refine TryF.other ?_ | refine TryA.g ?_ | refine TryA.next rfl ?_ | refine TryA.other ?_ | refine TryS.g ?_ | refine TryS.next rfl ?_ | refine TryS.other ?_ | refine TryG.g ?_ | refine TryG.next rfl ?_ | refine TryG.other ?_ | refine TryT.g ?_ | refine Sp.g (s1) ?_ | refine Sp.g (s2) ?_ | refine Sp.g (s3) ?_ | refine Sp.g (s3') ?_ | refine Sp.g (s4) ?_ | refine Sp.call (s5) (.cons (.leaf (.sl fun i j _ _ => by rw [eR0 r' 1 i]; exact .refl _)) (.cons (.refl _) .nil)) rfl (AvLe.refl _) ?_ | refine Sp.call (s6) (.cons (.leaf (.sl fun i j _ _ => by rw [eRS r' 1 0 i]; exact .refl _)) (.cons (.refl _) .nil)) rfl (AvLe.refl _) ?_)
      refine ⟨⟨fun m => RZ n D (k - 2) 1 r' 1 m + vG n D (k - 2) r' 1 1 m, fun i j _ _ => .refl _, fun _ j _ hj => zL_pure _ j hj, ?_⟩⟩
      repeat' ((conv => whnf); first | refine Ob.g ?_ | refine WrOb.g ?_ | refine WrOb.u32 ?_ | refine WrOb.u64 ?_ | refine Cases.y ?_ | refine Cases.n ?_ | refine Idx.g rfl ?_ | refine Idx.z rfl ?_ | refine DrawOb.start ?_ | refine TryF.f ?_ | refine TryF.next rfl ?_ | refine TryF.other ?_ | refine TryA.g ?_ | refine TryA.next rfl ?_ | refine TryA.other ?_ | refine TryS.g ?_ | refine TryS.next rfl ?_ | refine TryS.other ?_ | refine TryG.g ?_ | refine TryG.next rfl ?_ | refine TryG.other ?_ | refine TryT.g ?_)
      exact ⟨(r' + 1, _), [.s 3 29], ⟨hr', hn⟩, by show r - (r' + 1) < r - r'; omega, Ent.g⟩
    · obtain rfl : r' = r := by omega
      repeat' ((conv => whnf); first | refine Ob.g ?_ | refine WrOb.g ?_ | refine WrOb.u32 ?_ | refine WrOb.u64 ?_ | refine Cases.y ?_ | refine Cases.n ?_ | refine Idx.g rfl ?_ | refine Idx.z rfl ?_ | refine DrawOb.start ?_ | refine TryF.f ?_ | refine TryF.next rfl ?_ | refine TryF.other ?_ | refine TryA.g ?_ | refine TryA.next rfl ?_ | refine TryA.other ?_ | refine TryS.g ?_ | refine TryS.next rfl ?_ | refine TryS.other ?_ | refine TryG.g ?_ | refine TryG.next rfl ?_ | refine TryG.other ?_ | refine TryT.g ?_)
      refine ⟨⟨_, _, rfl, rfl, ?_⟩⟩
      refine .tup (.cons (.agg (.cons (.refl _) (.cons (.refl _) (.cons (.sl fun x j hx _ => ?_) .nil)))) (.cons (.refl _) .nil))
      rw [hZ x hx]
      exact .refl _
end Go.Proofs.YtedfcemebdlgfaaDoor

/- manin.Relations and the comparison of matrices, walked. -/
namespace Go.Proofs.YtedfcemebdlgfaaDoor
open Go Go.RowKit Go.VG HP
set_option maxHeartbeats 4000000 in
theorem SameZM_sp (r c : Int) (Z : Nat → Int) (n : Nat) (hn : n ≤ 1000000) (h : ∀ i, i < n → ln (Z i).natAbs ≤ 1000000) : Sp CX 40 [.v (zmA r c Z n), .v (zmA r c Z n)] (bool true) := by
  have s := SameInts_sp Z n hn h
  unfold zmA
  refine fn_sp (C := CX) [] [] tysX_ok mixed Tryd.func40 rfl (by kernel_rfl) Tryd.ntmps40 rfl rfl ?_
  repeat' ((conv => whnf); first | refine Ob.g ?_ | refine WrOb.g ?_ | refine WrOb.u32 ?_ | refine WrOb.u64 ?_ | refine Cases.y ?_ | refine Cases.n ?_ | refine Idx.g rfl ?_ | refine Idx.z rfl ?_ | refine DrawOb.start ?_ | refine TryF.f ?_ | refine TryF.next rfl ?_ | refine TryF.other ?_ | refine TryA.g ?_ | refine TryA.next rfl ?_ | refine TryA.other ?_ | refine TryS.g ?_ | refine TryS.next rfl ?_ | refine TryS.other ?_ | refine TryG.g ?_ | refine TryG.next rfl ?_ | refine TryG.other ?_ | refine TryT.g ?_ | refine Sp.g (s) ?_)
  refine ⟨⟨_, _, rfl, rfl, ?_⟩⟩
  exact AvLe.refl _
theorem Relations_bad (L K D : Int) (h : dchk L K D ≠ 0) : Sp CX 38 [specA L K D] (.tup [.agg [ix 0, ix 0, .x (.slice none 0 0)], .c (ix (dchk L K D))]) := by
  have s := enter_bad L K D h
  obtain ⟨e, he⟩ : ∃ e, e = dchk L K D := ⟨_, rfl⟩
  rw [← he] at s h ⊢
  refine fn_sp (C := CX) [] [] tysX_ok mixed Tryd.func38 rfl (by kernel_rfl) Tryd.ntmps38 rfl rfl ?_
  repeat' ((conv => whnf); first | refine Ob.g ?_ | refine WrOb.g ?_ | refine WrOb.u32 ?_ | refine WrOb.u64 ?_ | refine Cases.y ?_ | refine Cases.n ?_ | refine Idx.g rfl ?_ | refine Idx.z rfl ?_ | refine DrawOb.start ?_ | refine TryF.f ?_ | refine TryF.next rfl ?_ | refine TryF.other ?_ | refine TryA.g ?_ | refine TryA.next rfl ?_ | refine TryA.other ?_ | refine TryS.g ?_ | refine TryS.next rfl ?_ | refine TryS.other ?_ | refine TryG.g ?_ | refine TryG.next rfl ?_ | refine TryG.other ?_ | refine TryT.g ?_ | refine Sp.g (s) ?_)
  refine ⟨⟨_, _, rfl, rfl, ?_⟩⟩
  exact AvLe.refl _
/-- the lists of matrices -/
def gL (p : Nat) (_ : Nat) : Leaf := .sl 4 (Int × Int × Int × Int) m4L (gM p) (gN p)
theorem gL_le : LeafLe (.sl 1 Nat (fun i j => getL [.sl 4 Nat (fun i j => getL [ix 0, ix (-1), ix 1, ix 0] (i * 4 + j)) id 1, .sl 4 Nat (fun i j => getL [ix 0, ix (-1), ix 1, ix (-1), ix (-1), ix 1, ix (-1), ix 0] (i * 4 + j)) id 2] (i * 1 + j)) id 2) (.sl 1 Nat gL id 2) := .sl fun i j hi hj => by
  obtain rfl : j = 0 := by omega
  rcases (show i = 0 ∨ i = 1 by omega) with rfl | rfl
  · refine .sl (k := 4) fun i j hi hj => ?_
    obtain rfl : i = 0 := by omega
    rcases (show j = 0 ∨ j = 1 ∨ j = 2 ∨ j = 3 by omega) with rfl | rfl | rfl | rfl <;> exact .refl _
  · refine .sl (k := 4) fun i j hi hj => ?_
    rcases (show i = 0 ∨ i = 1 by omega) with rfl | rfl <;> rcases (show j = 0 ∨ j = 1 ∨ j = 2 ∨ j = 3 by omega) with rfl | rfl | rfl | rfl <;> exact .refl _
/-- a row while a vector is added -/
def RA (n : Nat) (D : Int) (w p r q kk m : Nat) : Int := if m < kk then RZ n D w p r (q + 1) m else RZ n D w p r q m
theorem RA_add {n w p r q kk : Nat} {D : Int} {cnt : Nat} {H : Nat → Option Int} (h : ∀ m, m < cnt → H m = some (RA n D w p r q kk m)) : ∀ m, m < cnt → setZ (Option Int) H kk (some (RZ n D w p r q kk + vG n D w r p q kk)) m = some (RA n D w p r q (kk + 1) m) := fun m hm => by
  unfold setZ
  have eRS : ∀ m, RZ n D w p r q m + vG n D w r p q m = RZ n D w p r (q + 1) m := fun m => by unfold RZ; rw [sumI]; omega
  by_cases e : m = kk
  · subst e
    rw [if_pos rfl]
    unfold RA
    rw [if_pos (by omega), eRS]
  · rw [if_neg e, h m hm]
    unfold RA
    by_cases h1 : m < kk
    · rw [if_pos h1, if_pos (by omega)]
    · rw [if_neg h1, if_neg (by omega)]
theorem RA_zero {n w p r q kk : Nat} {D : Int} {cnt : Nat} {H : Nat → Option Int} (h0 : vG n D w r p q kk = 0) (h : ∀ m, m < cnt → H m = some (RA n D w p r q kk m)) : ∀ m, m < cnt → H m = some (RA n D w p r q (kk + 1) m) := fun m hm => by
  have eRS : ∀ m, RZ n D w p r q m + vG n D w r p q m = RZ n D w p r (q + 1) m := fun m => by unfold RZ; rw [sumI]; omega
  rw [h m hm]
  unfold RA
  by_cases h1 : m < kk
  · rw [if_pos h1, if_pos (by omega)]
  · rw [if_neg h1]
    by_cases e : m = kk
    · subst e
      rw [if_pos (by omega), ← eRS, h0, Int.add_zero]
    · rw [if_neg (by omega)]
theorem cnt_bd {a b c d : Nat} (h1 : a ≤ c) (h2 : b ≤ d) : a * b ≤ c * d := Nat.mul_le_mul h1 h2
set_option maxHeartbeats 32000000 in
set_option maxRecDepth 20000 in
theorem Relations_ok (n k cnt : Nat) (D : Int) (h : DOk n k D) (ec : cnt = (k - 2 + 1) * (pts n).length) (hc : cnt ≤ 72) : Sp CX 38 [specA n k D] (.tup [zmA (2 * (cnt : Int)) cnt (relZ n D (k - 2) cnt) (cnt * (cnt + cnt)), .c (ix 0)]) := by
  have s := enter_ok n k D h
  have s2 := count_sp n D (k - 2) h.n0 h.n1 (by have := h.k1; omega)
  rw [← ec] at s2
  have z0 := Of_sp 0 (by omega) (by omega)
  have z1 := Of_sp 1 (by omega) (by omega)
  have hl := len_pts h.n1
  have hk1 := h.k1
  have hmv : ∀ r, r < cnt → ∀ p q, Sp CX 56 [wA n D (k - 2), int .i64 ((r : Int).tdiv (pts n).length), int .i64 ((r : Int).tmod (pts n).length), matA (gM p q).1 (gM p q).2.1 (gM p q).2.2.1 (gM p q).2.2.2] (zsA (vG n D (k - 2) r p q) cnt) := fun r hr p q => by
    have hr' : r < (k - 2 + 1) * (pts n).length := ec ▸ hr
    have hl0 : 0 < (pts n).length := Nat.pos_of_ne_zero fun e => by rw [e, Nat.mul_zero] at hr'; omega
    have hrl : r / (pts n).length < k - 2 + 1 := Nat.div_lt_of_lt_mul (by rw [Nat.mul_comm]; exact hr')
    have e1 : (r : Int).tmod (pts n).length = ((r % (pts n).length : Nat) : Int) := (Int.ofNat_tmod _ _).symm
    have e2 : (r : Int).tdiv (pts n).length = ((r / (pts n).length : Nat) : Int) := (Int.ofNat_tdiv _ _).symm
    have s4 := moved_sp n (r / (pts n).length) (r % (pts n).length) D (k - 2) _ _ _ _ h.n0 h.n1 (by omega) (by omega) (Nat.mod_lt r hl0) (gM_ok p q) (fun y hy => pSg_cases h hy)
    rw [mvZ_vS, ← ec] at s4
    rw [e1, e2]
    exact s4
  have hl0 : 0 < cnt → 0 < (pts n).length := fun h0 => Nat.pos_of_ne_zero fun e => by rw [e, Nat.mul_zero] at ec; omega
  have hRl := fun r (hr : r < cnt) p q m hq => RZ_ln h (ec ▸ hr) p q m hq
  have hVl : ∀ r, r < cnt → ∀ p q m, ln (vG n D (k - 2) r p q m).natAbs ≤ 100 := fun r hr p q m => vS_ln h (gM_ok p q) (ec ▸ hr) m
  have hcc : cnt * cnt ≤ 72 * 72 := cnt_bd hc hc
  generalize k - 2 = w at *
  refine fn_sp (C := CX) [(1000032,7)] [6] tysX_ok mixed Tryd.func38 rfl (by kernel_rfl) Tryd.ntmps38 rfl rfl ?_
  repeat' ((conv => whnf); first | refine Ob.g ?_ | refine WrOb.g ?_ | refine WrOb.u32 ?_ | refine WrOb.u64 ?_ | refine Cases.y ?_ | refine Cases.n ?_ | refine Idx.g rfl ?_ | refine Idx.z rfl ?_ | refine DrawOb.start ?_ | refine TryF.f ?_ | refine TryF.next rfl ?_ | refine TryF.other ?_ | refine TryA.g ?_ | refine TryA.next rfl ?_ | refine TryA.other ?_ | refine TryS.g ?_ | refine TryS.next rfl ?_ | refine TryS.other ?_ | refine TryG.g ?_ | refine TryG.next rfl ?_ | refine TryG.other ?_ | refine TryT.g ?_ | refine Sp.g (s) ?_ | refine Sp.g (s2) ?_)
  refine ⟨⟨Nat × (Nat → Int), fun (p, Z) => ⟨[(1, .v (.c (.loc 0 0))), (2, .v (.c (.loc 1 0))), (4, wA n D w), (9, int .i64 cnt), (10, .v (.c (.loc 5 0))), (43, .v (.c (.sl 1 Nat gL id 2))), (44, int .i64 2), (45, int .i64 p)], [(6, .rw 2 69 false Int zL Z (cnt * (cnt * p))), (5, .st [ix (2 * (cnt : Int)), ix cnt, .row 6]), (1, .st [ix 0, ix 0, .x (.slice none 0 0)]), (0, .st [ix n, ix k, ix D])], 7⟩, fun (p, Z) => p ≤ 2 ∧ ∀ x, x < cnt * (cnt * p) → Z x = relZ n D w cnt x, fun (p, _) => 2 - p, ⟨(0, fun _ => 0), [.m 5 2 6 2 69], ⟨by omega, fun x hx => absurd hx (Nat.not_lt_zero _)⟩, by
    refine ⟨?_, ?_, rfl⟩
    · refine TmE.cons (AvLe.refl _) ?_
      refine TmE.cons (AvLe.refl _) ?_
      refine TmE.cons (AvLe.refl _) ?_
      refine TmE.cons (AvLe.refl _) ?_
      refine TmE.cons (AvLe.refl _) ?_
      refine TmE.cons (.leaf gL_le) ?_
      refine TmE.cons (AvLe.refl _) ?_
      refine TmE.cons (AvLe.refl _) ?_
      exact TmE.nil
    · repeat (first | exact OwnE.nil | refine OwnE.cons rfl (BlkLe.refl _) ?_ | refine OwnE.cons rfl BlkLe.zero ?_)⟩, ?_⟩⟩
  rintro ⟨p, Z⟩ ⟨p1, hZ⟩
  by_cases hp : p < 2
  · have hgn : gN p ≤ 2 := by unfold gN; split <;> omega
    repeat' ((conv => whnf); first | (refine Idx.mk ⟨p, rfl, hp, ?_⟩) | refine Ob.g ?_ | refine WrOb.g ?_ | refine WrOb.u32 ?_ | refine WrOb.u64 ?_ | refine Cases.y ?_ | refine Cases.n ?_ | refine Idx.g rfl ?_ | refine Idx.z rfl ?_ | refine DrawOb.start ?_ | refine TryF.f ?_ | refine TryF.next rfl ?_ | refine TryF.other ?_ | refine TryA.g ?_ | refine TryA.next rfl ?_ | refine TryA.other ?_ | refine TryS.g ?_ | refine TryS.next rfl ?_ | refine TryS.other ?_ | refine TryG.g ?_ | refine TryG.next rfl ?_ | refine TryG.other ?_ | refine TryT.g ?_)
    refine ⟨⟨Nat × (Nat → Int), fun (r, Z) => ⟨[(1, .v (.c (.loc 0 0))), (2, .v (.c (.loc 1 0))), (4, wA n D w), (9, int .i64 cnt), (10, .v (.c (.loc 5 0))), (12, .v (.c (gL p 0))), (13, int .i64 r), (43, .v (.c (.sl 1 Nat gL id 2))), (44, int .i64 2), (45, int .i64 p)], [(6, .rw 2 69 false Int zL Z (cnt * (cnt * p + r))), (5, .st [ix (2 * (cnt : Int)), ix cnt, .row 6]), (1, .st [ix 0, ix 0, .x (.slice none 0 0)]), (0, .st [ix n, ix k, ix D])], 7⟩, fun (r, Z) => r ≤ cnt ∧ ∀ x, x < cnt * (cnt * p + r) → Z x = relZ n D w cnt x, fun (r, _) => cnt - r, ⟨(0, Z), [], ⟨Nat.zero_le _, hZ⟩, Ent.g⟩, ?_⟩⟩
    clear hZ
    rintro ⟨r, Z⟩ ⟨r1, hZ⟩
    have hrb : cnt * (cnt * p + r) ≤ 72 * 144 := cnt_bd hc (by have := cnt_bd hc (show p ≤ 1 by omega); omega)
    by_cases hr : r < cnt
    · have hat := fun m (hm : m < cnt) => rel_at (n := n) (D := D) (w := w) (p := p) hm hr
      repeat' ((conv => whnf); first | (refine Ob.mk ⟨rfl, by omega, by decide⟩ ?_) | refine Ob.g ?_ | refine WrOb.g ?_ | refine WrOb.u32 ?_ | refine WrOb.u64 ?_ | refine Cases.y ?_ | refine Cases.n ?_ | refine Idx.g rfl ?_ | refine Idx.z rfl ?_ | refine DrawOb.start ?_ | refine TryF.f ?_ | refine TryF.next rfl ?_ | refine TryF.other ?_ | refine TryA.g ?_ | refine TryA.next rfl ?_ | refine TryA.other ?_ | refine TryS.g ?_ | refine TryS.next rfl ?_ | refine TryS.other ?_ | refine TryG.g ?_ | refine TryG.next rfl ?_ | refine TryG.other ?_ | refine TryT.g ?_)
      refine ⟨⟨Option Int, oL, fun _ => none, cnt, rfl, mk_o _, ?_⟩⟩
      repeat' ((conv => whnf); first | refine Ob.g ?_ | refine WrOb.g ?_ | refine WrOb.u32 ?_ | refine WrOb.u64 ?_ | refine Cases.y ?_ | refine Cases.n ?_ | refine Idx.g rfl ?_ | refine Idx.z rfl ?_ | refine DrawOb.start ?_ | refine TryF.f ?_ | refine TryF.next rfl ?_ | refine TryF.other ?_ | refine TryA.g ?_ | refine TryA.next rfl ?_ | refine TryA.other ?_ | refine TryS.g ?_ | refine TryS.next rfl ?_ | refine TryS.other ?_ | refine TryG.g ?_ | refine TryG.next rfl ?_ | refine TryG.other ?_ | refine TryT.g ?_)
      refine ⟨⟨Nat × (Nat → Option Int), fun (j, H) => ⟨[(1, .v (.c (.loc 0 0))), (2, .v (.c (.loc 1 0))), (4, wA n D w), (9, int .i64 cnt), (10, .v (.c (.loc 5 0))), (12, .v (.c (gL p 0))), (13, int .i64 r), (14, .v (.c (.row 7))), (43, .v (.c (.sl 1 Nat gL id 2))), (44, int .i64 2), (45, int .i64 p), (57, int .i64 cnt), (58, int .i64 j)], [(7, .rw 2 69 false (Option Int) oL H cnt), (6, .rw 2 69 false Int zL Z (cnt * (cnt * p + r))), (5, .st [ix (2 * (cnt : Int)), ix cnt, .row 6]), (1, .st [ix 0, ix 0, .x (.slice none 0 0)]), (0, .st [ix n, ix k, ix D])], 8⟩, fun (j, H) => j ≤ cnt ∧ ∀ m, m < j → H m = some 0, fun (j, _) => cnt - j, ⟨(0, fun _ => none), [], ⟨Nat.zero_le _, fun m hm => absurd hm (Nat.not_lt_zero _)⟩, Ent.g⟩, ?_⟩⟩
      rintro ⟨j, H⟩ ⟨j1, hH⟩
      by_cases hj : j < cnt
      · have hn : ∀ m, m < j + 1 → setZ (Option Int) H j (some 0) m = some 0 := fun m hm => by
          unfold setZ
          by_cases e : m = j
          · rw [if_pos e]
          · rw [if_neg e]; exact hH m (by omega)
        clear hH hZ hat hRl hVl hmv
        repeat' ((conv => whnf); first | (refine Idx.mk ⟨j, rfl, hj, ?_⟩) | refine Ob.g ?_ | refine WrOb.g ?_ | refine WrOb.u32 ?_ | refine WrOb.u64 ?_ | refine Cases.y ?_ | refine Cases.n ?_ | refine Idx.g rfl ?_ | refine Idx.z rfl ?_ | refine DrawOb.start ?_ | refine TryF.f ?_ | refine TryF.next rfl ?_ | refine TryF.other ?_ | refine TryA.g ?_ | refine TryA.next rfl ?_ | refine TryA.other ?_ | refine TryS.g ?_ | refine TryS.next rfl ?_ | refine TryS.other ?_ | refine TryG.g ?_ | refine TryG.next rfl ?_ | refine TryG.other ?_ | refine TryT.g ?_ | refine Sp.g (z0) ?_)
        refine ⟨⟨some 0, rfl, ?_⟩⟩
        repeat' ((conv => whnf); first | refine Ob.g ?_ | refine WrOb.g ?_ | refine WrOb.u32 ?_ | refine WrOb.u64 ?_ | refine Cases.y ?_ | refine Cases.n ?_ | refine Idx.g rfl ?_ | refine Idx.z rfl ?_ | refine DrawOb.start ?_ | refine TryF.f ?_ | refine TryF.next rfl ?_ | refine TryF.other ?_ | refine TryA.g ?_ | refine TryA.next rfl ?_ | refine TryA.other ?_ | refine TryS.g ?_ | refine TryS.next rfl ?_ | refine TryS.other ?_ | refine TryG.g ?_ | refine TryG.next rfl ?_ | refine TryG.other ?_ | refine TryT.g ?_)
        exact ⟨(j + 1, _), [], ⟨hj, hn⟩, by show cnt - (j + 1) < cnt - j; omega, Ent.g⟩
      · obtain rfl : j = cnt := by omega
        have hn : ∀ m, m < j → setZ (Option Int) H r (some 1) m = some (RZ n D w p r 0 m) := fun m hm => by
          unfold setZ RZ uZ
          show _ = some ((if m = r then 1 else 0) + 0)
          by_cases e : m = r
          · rw [if_pos e, if_pos e]; rfl
          · rw [if_neg e, if_neg e, hH m hm]; rfl
        clear hH
        repeat' ((conv => whnf); first | (refine Idx.mk ⟨r, rfl, hr, ?_⟩) | refine Ob.g ?_ | refine WrOb.g ?_ | refine WrOb.u32 ?_ | refine WrOb.u64 ?_ | refine Cases.y ?_ | refine Cases.n ?_ | refine Idx.g rfl ?_ | refine Idx.z rfl ?_ | refine DrawOb.start ?_ | refine TryF.f ?_ | refine TryF.next rfl ?_ | refine TryF.other ?_ | refine TryA.g ?_ | refine TryA.next rfl ?_ | refine TryA.other ?_ | refine TryS.g ?_ | refine TryS.next rfl ?_ | refine TryS.other ?_ | refine TryG.g ?_ | refine TryG.next rfl ?_ | refine TryG.other ?_ | refine TryT.g ?_ | refine Sp.g (z1) ?_)
        refine ⟨⟨some 1, rfl, ?_⟩⟩
        repeat' ((conv => whnf); first | refine Ob.g ?_ | refine WrOb.g ?_ | refine WrOb.u32 ?_ | refine WrOb.u64 ?_ | refine Cases.y ?_ | refine Cases.n ?_ | refine Idx.g rfl ?_ | refine Idx.z rfl ?_ | refine DrawOb.start ?_ | refine TryF.f ?_ | refine TryF.next rfl ?_ | refine TryF.other ?_ | refine TryA.g ?_ | refine TryA.next rfl ?_ | refine TryA.other ?_ | refine TryS.g ?_ | refine TryS.next rfl ?_ | refine TryS.other ?_ | refine TryG.g ?_ | refine TryG.next rfl ?_ | refine TryG.other ?_ | refine TryT.g ?_)
        refine ⟨⟨Nat × (Nat → Option Int), fun (q, H) => ⟨[(1, .v (.c (.loc 0 0))), (2, .v (.c (.loc 1 0))), (4, wA n D w), (9, int .i64 j), (10, .v (.c (.loc 5 0))), (12, .v (.c (gL p 0))), (13, int .i64 r), (14, .v (.c (.row 7))), (43, .v (.c (.sl 1 Nat gL id 2))), (44, int .i64 2), (45, int .i64 p), (70, .v (.c (gL p 0))), (71, int .i64 (gN p)), (72, int .i64 q)], [(7, .rw 2 69 false (Option Int) oL H j), (6, .rw 2 69 false Int zL Z (j * (j * p + r))), (5, .st [ix (2 * (j : Int)), ix j, .row 6]), (1, .st [ix 0, ix 0, .x (.slice none 0 0)]), (0, .st [ix n, ix k, ix D])], 8⟩, fun (q, H) => q ≤ gN p ∧ ∀ m, m < j → H m = some (RZ n D w p r q m), fun (q, _) => gN p - q, ⟨(0, _), [], ⟨Nat.zero_le _, hn⟩, Ent.g⟩, ?_⟩⟩
        clear hn
        rintro ⟨q, H⟩ ⟨q1, hH⟩
        by_cases hq : q < gN p
        · have sm := hmv r hr p q
          have hl1 := hl0 (by omega)
          clear hmv
          repeat' ((conv => whnf); first | (refine Ob.mk ⟨by omega, tdivIn (by omega) (by omega)⟩ ?_) | (refine Idx.mk ⟨q, rfl, hq, ?_⟩) | refine Ob.g ?_ | refine WrOb.g ?_ | refine WrOb.u32 ?_ | refine WrOb.u64 ?_ | refine Cases.y ?_ | refine Cases.n ?_ | refine Idx.g rfl ?_ | refine Idx.z rfl ?_ | refine DrawOb.start ?_ | refine TryF.f ?_ | refine TryF.next rfl ?_ | refine TryF.other ?_ | refine TryA.g ?_ | refine TryA.next rfl ?_ | refine TryA.other ?_ | refine TryS.g ?_ | refine TryS.next rfl ?_ | refine TryS.other ?_ | refine TryG.g ?_ | refine TryG.next rfl ?_ | refine TryG.other ?_ | refine TryT.g ?_ | refine Sp.g (sm) ?_)
          refine ⟨⟨Nat × (Nat → Option Int), fun (kk, H) => ⟨[(1, .v (.c (.loc 0 0))), (2, .v (.c (.loc 1 0))), (4, wA n D w), (9, int .i64 j), (10, .v (.c (.loc 5 0))), (12, .v (.c (gL p 0))), (13, int .i64 r), (14, .v (.c (.row 7))), (43, .v (.c (.sl 1 Nat gL id 2))), (44, int .i64 2), (45, int .i64 p), (70, .v (.c (gL p 0))), (71, int .i64 (gN p)), (72, int .i64 q), (92, zsA (vG n D w r p q) j), (93, int .i64 j), (94, int .i64 kk)], [(7, .rw 2 69 false (Option Int) oL H j), (6, .rw 2 69 false Int zL Z (j * (j * p + r))), (5, .st [ix (2 * (j : Int)), ix j, .row 6]), (1, .st [ix 0, ix 0, .x (.slice none 0 0)]), (0, .st [ix n, ix k, ix D])], 8⟩, fun (kk, H) => kk ≤ j ∧ ∀ m, m < j → H m = some (RA n D w p r q kk m), fun (kk, _) => j - kk, ⟨(0, H), [], ⟨Nat.zero_le _, fun m hm => by rw [hH m hm]; unfold RA; rw [if_neg (Nat.not_lt_zero _)]⟩, Ent.g⟩, ?_⟩⟩
          clear hH
          rintro ⟨kk, H⟩ ⟨kk1, hH⟩
          by_cases hk : kk < j
          · have ra := RA_add hH
            have rz := fun h0 => RA_zero h0 hH
            have hHk : H kk = some (RZ n D w p r q kk) := by rw [hH kk hk]; unfold RA; rw [if_neg (by omega)]
            have ss := Sign_sp (vG n D w r p q kk) (Nat.le_trans (hVl r hr p q kk) (by omega))
            have sa := Add_sp (RZ n D w p r q kk) (vG n D w r p q kk) (Nat.le_trans (hRl r hr p q kk (by omega)) (by omega)) (Nat.le_trans (hVl r hr p q kk) (by omega))
            have hdec : j - (kk + 1) < j - kk := by omega
            clear hH hZ hat hRl hVl sm
            rcases Int.lt_trichotomy (vG n D w r p q kk) 0 with hv | hv | hv
            · rw [if_pos hv] at ss
              clear rz
              repeat' ((conv => whnf); first | (refine Idx.mk ⟨kk, rfl, hk, ?_⟩) | refine Ob.g ?_ | refine WrOb.g ?_ | refine WrOb.u32 ?_ | refine WrOb.u64 ?_ | refine Cases.y ?_ | refine Cases.n ?_ | refine Idx.g rfl ?_ | refine Idx.z rfl ?_ | refine DrawOb.start ?_ | refine TryF.f ?_ | refine TryF.next rfl ?_ | refine TryF.other ?_ | refine TryA.g ?_ | refine TryA.next rfl ?_ | refine TryA.other ?_ | refine TryS.g ?_ | refine TryS.next rfl ?_ | refine TryS.other ?_ | refine TryG.g ?_ | refine TryG.next rfl ?_ | refine TryG.other ?_ | refine TryT.g ?_ | refine Sp.g (ss) ?_)
              rw [hHk]
              repeat' ((conv => whnf); first | (refine Idx.mk ⟨kk, rfl, hk, ?_⟩) | refine Ob.g ?_ | refine WrOb.g ?_ | refine WrOb.u32 ?_ | refine WrOb.u64 ?_ | refine Cases.y ?_ | refine Cases.n ?_ | refine Idx.g rfl ?_ | refine Idx.z rfl ?_ | refine DrawOb.start ?_ | refine TryF.f ?_ | refine TryF.next rfl ?_ | refine TryF.other ?_ | refine TryA.g ?_ | refine TryA.next rfl ?_ | refine TryA.other ?_ | refine TryS.g ?_ | refine TryS.next rfl ?_ | refine TryS.other ?_ | refine TryG.g ?_ | refine TryG.next rfl ?_ | refine TryG.other ?_ | refine TryT.g ?_ | refine Sp.g (sa) ?_)
              refine ⟨⟨some (RZ n D w p r q kk + vG n D w r p q kk), rfl, ?_⟩⟩
              repeat' ((conv => whnf); first | refine Ob.g ?_ | refine WrOb.g ?_ | refine WrOb.u32 ?_ | refine WrOb.u64 ?_ | refine Cases.y ?_ | refine Cases.n ?_ | refine Idx.g rfl ?_ | refine Idx.z rfl ?_ | refine DrawOb.start ?_ | refine TryF.f ?_ | refine TryF.next rfl ?_ | refine TryF.other ?_ | refine TryA.g ?_ | refine TryA.next rfl ?_ | refine TryA.other ?_ | refine TryS.g ?_ | refine TryS.next rfl ?_ | refine TryS.other ?_ | refine TryG.g ?_ | refine TryG.next rfl ?_ | refine TryG.other ?_ | refine TryT.g ?_)
              exact ⟨(kk + 1, _), [], ⟨hk, ra⟩, hdec, Ent.g⟩
            · rw [if_neg (by omega), if_neg (by omega)] at ss
              have rz := rz hv
              clear ra
              repeat' ((conv => whnf); first | (refine Idx.mk ⟨kk, rfl, hk, ?_⟩) | refine Ob.g ?_ | refine WrOb.g ?_ | refine WrOb.u32 ?_ | refine WrOb.u64 ?_ | refine Cases.y ?_ | refine Cases.n ?_ | refine Idx.g rfl ?_ | refine Idx.z rfl ?_ | refine DrawOb.start ?_ | refine TryF.f ?_ | refine TryF.next rfl ?_ | refine TryF.other ?_ | refine TryA.g ?_ | refine TryA.next rfl ?_ | refine TryA.other ?_ | refine TryS.g ?_ | refine TryS.next rfl ?_ | refine TryS.other ?_ | refine TryG.g ?_ | refine TryG.next rfl ?_ | refine TryG.other ?_ | refine TryT.g ?_ | refine Sp.g (ss) ?_)
              exact ⟨(kk + 1, _), [], ⟨hk, rz⟩, hdec, Ent.g⟩
            · rw [if_neg (by omega), if_pos hv] at ss
              clear rz
              repeat' ((conv => whnf); first | (refine Idx.mk ⟨kk, rfl, hk, ?_⟩) | refine Ob.g ?_ | refine WrOb.g ?_ | refine WrOb.u32 ?_ | refine WrOb.u64 ?_ | refine Cases.y ?_ | refine Cases.n ?_ | refine Idx.g rfl ?_ | refine Idx.z rfl ?_ | refine DrawOb.start ?_ | refine TryF.f ?_ | refine TryF.next rfl ?_ | refine TryF.other ?_ | refine TryA.g ?_ | refine TryA.next rfl ?_ | refine TryA.other ?_ | refine TryS.g ?_ | refine TryS.next rfl ?_ | refine TryS.other ?_ | refine TryG.g ?_ | refine TryG.next rfl ?_ | refine TryG.other ?_ | refine TryT.g ?_ | refine Sp.g (ss) ?_)
              rw [hHk]
              repeat' ((conv => whnf); first | (refine Idx.mk ⟨kk, rfl, hk, ?_⟩) | refine Ob.g ?_ | refine WrOb.g ?_ | refine WrOb.u32 ?_ | refine WrOb.u64 ?_ | refine Cases.y ?_ | refine Cases.n ?_ | refine Idx.g rfl ?_ | refine Idx.z rfl ?_ | refine DrawOb.start ?_ | refine TryF.f ?_ | refine TryF.next rfl ?_ | refine TryF.other ?_ | refine TryA.g ?_ | refine TryA.next rfl ?_ | refine TryA.other ?_ | refine TryS.g ?_ | refine TryS.next rfl ?_ | refine TryS.other ?_ | refine TryG.g ?_ | refine TryG.next rfl ?_ | refine TryG.other ?_ | refine TryT.g ?_ | refine Sp.g (sa) ?_)
              refine ⟨⟨some (RZ n D w p r q kk + vG n D w r p q kk), rfl, ?_⟩⟩
              repeat' ((conv => whnf); first | refine Ob.g ?_ | refine WrOb.g ?_ | refine WrOb.u32 ?_ | refine WrOb.u64 ?_ | refine Cases.y ?_ | refine Cases.n ?_ | refine Idx.g rfl ?_ | refine Idx.z rfl ?_ | refine DrawOb.start ?_ | refine TryF.f ?_ | refine TryF.next rfl ?_ | refine TryF.other ?_ | refine TryA.g ?_ | refine TryA.next rfl ?_ | refine TryA.other ?_ | refine TryS.g ?_ | refine TryS.next rfl ?_ | refine TryS.other ?_ | refine TryG.g ?_ | refine TryG.next rfl ?_ | refine TryG.other ?_ | refine TryT.g ?_)
              exact ⟨(kk + 1, _), [], ⟨hk, ra⟩, hdec, Ent.g⟩
          · obtain rfl : kk = j := by omega
            have hn : ∀ m, m < kk → H m = some (RZ n D w p r (q + 1) m) := fun m hm => by rw [hH m hm]; unfold RA; rw [if_pos hm]
            clear hH
            repeat' ((conv => whnf); first | refine Ob.g ?_ | refine WrOb.g ?_ | refine WrOb.u32 ?_ | refine WrOb.u64 ?_ | refine Cases.y ?_ | refine Cases.n ?_ | refine Idx.g rfl ?_ | refine Idx.z rfl ?_ | refine DrawOb.start ?_ | refine TryF.f ?_ | refine TryF.next rfl ?_ | refine TryF.other ?_ | refine TryA.g ?_ | refine TryA.next rfl ?_ | refine TryA.other ?_ | refine TryS.g ?_ | refine TryS.next rfl ?_ | refine TryS.other ?_ | refine TryG.g ?_ | refine TryG.next rfl ?_ | refine TryG.other ?_ | refine TryT.g ?_)
            exact ⟨(q + 1, _), [], ⟨hq, hn⟩, by show gN p - (q + 1) < gN p - q; omega, Ent.g⟩
        · obtain rfl : q = gN p := by omega
          have hn := app_row (G := relZ n D w j) (Y := fun m => RZ n D w p r (gN p) m) hZ (fun m hm => (hat m hm).symm)
          clear hZ hat hmv
          repeat' ((conv => whnf); first | refine Ob.g ?_ | refine WrOb.g ?_ | refine WrOb.u32 ?_ | refine WrOb.u64 ?_ | refine Cases.y ?_ | refine Cases.n ?_ | refine Idx.g rfl ?_ | refine Idx.z rfl ?_ | refine DrawOb.start ?_ | refine TryF.f ?_ | refine TryF.next rfl ?_ | refine TryF.other ?_ | refine TryA.g ?_ | refine TryA.next rfl ?_ | refine TryA.other ?_ | refine TryS.g ?_ | refine TryS.next rfl ?_ | refine TryS.other ?_ | refine TryG.g ?_ | refine TryG.next rfl ?_ | refine TryG.other ?_ | refine TryT.g ?_)
          refine ⟨⟨fun m => RZ n D w p r (gN p) m, fun i _ hi _ => by rw [hH i hi]; exact .refl _, fun _ j _ hj => zL_pure _ j hj, ?_⟩⟩
          repeat' ((conv => whnf); first | refine Ob.g ?_ | refine WrOb.g ?_ | refine WrOb.u32 ?_ | refine WrOb.u64 ?_ | refine Cases.y ?_ | refine Cases.n ?_ | refine Idx.g rfl ?_ | refine Idx.z rfl ?_ | refine DrawOb.start ?_ | refine TryF.f ?_ | refine TryF.next rfl ?_ | refine TryF.other ?_ | refine TryA.g ?_ | refine TryA.next rfl ?_ | refine TryA.other ?_ | refine TryS.g ?_ | refine TryS.next rfl ?_ | refine TryS.other ?_ | refine TryG.g ?_ | refine TryG.next rfl ?_ | refine TryG.other ?_ | refine TryT.g ?_)
          exact ⟨(r + 1, _), [.s 6 8], ⟨hr, hn⟩, by show j - (r + 1) < j - r; omega, Ent.g⟩
    · obtain rfl : r = cnt := by omega
      repeat' ((conv => whnf); first | refine Ob.g ?_ | refine WrOb.g ?_ | refine WrOb.u32 ?_ | refine WrOb.u64 ?_ | refine Cases.y ?_ | refine Cases.n ?_ | refine Idx.g rfl ?_ | refine Idx.z rfl ?_ | refine DrawOb.start ?_ | refine TryF.f ?_ | refine TryF.next rfl ?_ | refine TryF.other ?_ | refine TryA.g ?_ | refine TryA.next rfl ?_ | refine TryA.other ?_ | refine TryS.g ?_ | refine TryS.next rfl ?_ | refine TryS.other ?_ | refine TryG.g ?_ | refine TryG.next rfl ?_ | refine TryG.other ?_ | refine TryT.g ?_)
      exact ⟨(p + 1, _), [], ⟨by omega, hZ⟩, by show 2 - (p + 1) < 2 - p; omega, Ent.g⟩
  · obtain rfl : p = 2 := by omega
    repeat' ((conv => whnf); first | refine Ob.g ?_ | refine WrOb.g ?_ | refine WrOb.u32 ?_ | refine WrOb.u64 ?_ | refine Cases.y ?_ | refine Cases.n ?_ | refine Idx.g rfl ?_ | refine Idx.z rfl ?_ | refine DrawOb.start ?_ | refine TryF.f ?_ | refine TryF.next rfl ?_ | refine TryF.other ?_ | refine TryA.g ?_ | refine TryA.next rfl ?_ | refine TryA.other ?_ | refine TryS.g ?_ | refine TryS.next rfl ?_ | refine TryS.other ?_ | refine TryG.g ?_ | refine TryG.next rfl ?_ | refine TryG.other ?_ | refine TryT.g ?_)
    refine ⟨⟨_, _, rfl, rfl, ?_⟩⟩
    refine .tup (.cons (.agg (.cons (.refl _) (.cons (.refl _) (.cons (LeafLe.trans (LeafLe.slN (show cnt * (cnt * 2) = cnt * (cnt + cnt) by rw [Nat.mul_two])) (.sl fun x j hx _ => ?_)) .nil)))) (.cons (.refl _) .nil))
    rw [hZ x (by rw [Nat.mul_two]; exact hx)]
    exact .refl _
end Go.Proofs.YtedfcemebdlgfaaDoor

