/- Own texts joined: MnW, MnX, MnY, MnZ. -/
import Derived.Test.YtedfcemebdlgfaaDoorPkMnU
/- The helpers of the statements about Manin symbols, walked. -/
namespace Go.Proofs.YtedfcemebdlgfaaDoor
open Go Go.RowKit Go.VG HP
theorem zero40_sp (n : Nat) (hn : n ≤ 1000000) : SpR CX 36 [int .i64 n] 2 69 Int zL (fun _ => 0) n := by
  have sz := Zs_sp (fun _ => 0) n hn (fun _ _ => by omega) (fun _ _ => by omega)
  refine fn_spR (C := CX) [] tysX_ok mixed Tryd.func36 rfl (by kernel_rfl) Tryd.ntmps36 rfl ?_
  repeat' ((conv => whnf); first | (refine Ob.mk ⟨rfl, by omega, by decide⟩ ?_) | refine Ob.g ?_ | refine WrOb.g ?_ | refine WrOb.u32 ?_ | refine WrOb.u64 ?_ | refine Cases.y ?_ | refine Cases.n ?_ | refine Idx.g rfl ?_ | refine Idx.z rfl ?_ | refine DrawOb.start ?_ | refine TryF.f ?_ | refine TryF.next rfl ?_ | refine TryF.other ?_ | refine TryA.g ?_ | refine TryA.next rfl ?_ | refine TryA.other ?_ | refine TryS.g ?_ | refine TryS.next rfl ?_ | refine TryS.other ?_ | refine TryG.g ?_ | refine TryG.next rfl ?_ | refine TryG.other ?_ | refine TryT.g ?_)
  refine ⟨⟨Int, fun z _ => ix z, fun _ => 0, n, rfl, mk_ix _, ?_⟩⟩
  repeat' ((conv => whnf); first | refine Ob.g ?_ | refine WrOb.g ?_ | refine WrOb.u32 ?_ | refine WrOb.u64 ?_ | refine Cases.y ?_ | refine Cases.n ?_ | refine Idx.g rfl ?_ | refine Idx.z rfl ?_ | refine DrawOb.start ?_ | refine TryF.f ?_ | refine TryF.next rfl ?_ | refine TryF.other ?_ | refine TryA.g ?_ | refine TryA.next rfl ?_ | refine TryA.other ?_ | refine TryS.g ?_ | refine TryS.next rfl ?_ | refine TryS.other ?_ | refine TryG.g ?_ | refine TryG.next rfl ?_ | refine TryG.other ?_ | refine TryT.g ?_ | refine SpR.call (sz) (ArgsLe.refl _) rfl rfl ?_)
  refine ⟨⟨_, _, _, rfl, rfl, rfl, ?_⟩⟩
  exact BlkLe.refl _
set_option maxHeartbeats 8000000 in
set_option maxRecDepth 20000 in
theorem add40_sp (A B : Nat → Int) (f : Int) (n : Nat) (hn : n ≤ 1000000) (hf : ln f.natAbs ≤ 1000) (hA : ∀ i, i < n → ln (A i).natAbs ≤ 1000) (hB : ∀ i, i < n → ln (B i).natAbs ≤ 1000) : Sp CX 35 [zsA A n, zA f, zsA B n] (zsA (fun m => A m + f * B m) n) := by
  refine fn_sp (C := CX) [] [1] tysX_ok mixed Tryd.func35 rfl (by kernel_rfl) Tryd.ntmps35 rfl rfl ?_
  repeat' ((conv => whnf); first | refine Ob.g ?_ | refine WrOb.g ?_ | refine WrOb.u32 ?_ | refine WrOb.u64 ?_ | refine Cases.y ?_ | refine Cases.n ?_ | refine Idx.g rfl ?_ | refine Idx.z rfl ?_ | refine DrawOb.start ?_ | refine TryF.f ?_ | refine TryF.next rfl ?_ | refine TryF.other ?_ | refine TryA.g ?_ | refine TryA.next rfl ?_ | refine TryA.other ?_ | refine TryS.g ?_ | refine TryS.next rfl ?_ | refine TryS.other ?_ | refine TryG.g ?_ | refine TryG.next rfl ?_ | refine TryG.other ?_ | refine TryT.g ?_)
  refine ⟨⟨Nat × (Nat → Int), fun (k, H) => ⟨[(0, zsA A n), (2, zsA B n), (4, .v (.c (.loc 0 0))), (7, .v (.c (.row 1))), (8, int .i64 k)], [(1, .rw 2 69 false Int zL H k), (0, .st [.x (.bool (decide (f < 0))), dsL f.natAbs (ln f.natAbs)])], 2⟩, fun (k, H) => k ≤ n ∧ ∀ j, j < k → H j = A j + f * B j, fun (k, _) => n - k, ⟨(0, fun _ => 0), [.n 7 1 2 69], ⟨Nat.zero_le _, fun j hj => absurd hj (Nat.not_lt_zero _)⟩, Ent.g⟩, ?_⟩⟩
  rintro ⟨k, H⟩ ⟨hk, hH⟩
  by_cases hlt : k < n
  · have sm := rMul_sp f (B k) (by omega) (by have := hB k hlt; omega)
    have s := rAdd_sp (A k) (f * B k) (by have := hA k hlt; omega) (by
      rw [Int.natAbs_mul]
      have := ln_mul f.natAbs (B k).natAbs
      have := hB k hlt
      omega)
    repeat' ((conv => whnf); first | refine Ob.g ?_ | refine WrOb.g ?_ | refine WrOb.u32 ?_ | refine WrOb.u64 ?_ | refine Cases.y ?_ | refine Cases.n ?_ | refine Idx.g rfl ?_ | refine Idx.z rfl ?_ | refine DrawOb.start ?_ | refine TryF.f ?_ | refine TryF.next rfl ?_ | refine TryF.other ?_ | refine TryA.g ?_ | refine TryA.next rfl ?_ | refine TryA.other ?_ | refine TryS.g ?_ | refine TryS.next rfl ?_ | refine TryS.other ?_ | refine TryG.g ?_ | refine TryG.next rfl ?_ | refine TryG.other ?_ | refine TryT.g ?_ | refine Sp.g (sm) ?_ | refine Sp.g (s) ?_)
    refine ⟨⟨fun _ => A k + f * B k, one_z, fun _ j _ hj => zL_pure _ j hj, ?_⟩⟩
    repeat' ((conv => whnf); first | refine Ob.g ?_ | refine WrOb.g ?_ | refine WrOb.u32 ?_ | refine WrOb.u64 ?_ | refine Cases.y ?_ | refine Cases.n ?_ | refine Idx.g rfl ?_ | refine Idx.z rfl ?_ | refine DrawOb.start ?_ | refine TryF.f ?_ | refine TryF.next rfl ?_ | refine TryF.other ?_ | refine TryA.g ?_ | refine TryA.next rfl ?_ | refine TryA.other ?_ | refine TryS.g ?_ | refine TryS.next rfl ?_ | refine TryS.other ?_ | refine TryG.g ?_ | refine TryG.next rfl ?_ | refine TryG.other ?_ | refine TryT.g ?_)
    exact ⟨(k + 1, _), [.s 1 15], ⟨hlt, fun j hj => by
      show appZ Int H (fun _ => A k + f * B k) k j = A j + f * B j
      unfold appZ
      by_cases h : j < k
      · rw [if_pos h]; exact hH j h
      · rw [if_neg h, show j = k by omega]⟩, by show n - (k + 1) < n - k; omega, Ent.g⟩
  · obtain rfl : k = n := by omega
    repeat' ((conv => whnf); first | refine Ob.g ?_ | refine WrOb.g ?_ | refine WrOb.u32 ?_ | refine WrOb.u64 ?_ | refine Cases.y ?_ | refine Cases.n ?_ | refine Idx.g rfl ?_ | refine Idx.z rfl ?_ | refine DrawOb.start ?_ | refine TryF.f ?_ | refine TryF.next rfl ?_ | refine TryF.other ?_ | refine TryA.g ?_ | refine TryA.next rfl ?_ | refine TryA.other ?_ | refine TryS.g ?_ | refine TryS.next rfl ?_ | refine TryS.other ?_ | refine TryG.g ?_ | refine TryG.next rfl ?_ | refine TryG.other ?_ | refine TryT.g ?_)
    refine ⟨⟨_, _, rfl, rfl, ?_⟩⟩
    exact .leaf (.sl fun i j hi _ => by rw [hH i hi]; exact .refl _)
theorem sumV_bd {f : Nat → Int} {B c : Nat} (h : ∀ q, q < c → (f q).natAbs ≤ B) : ∀ i, i ≤ c → (sumI f i).natAbs ≤ i * B
  | 0, _ => Nat.zero_le _
  | i + 1, hi => by
    have ih := sumV_bd h i (by omega)
    rw [sumI, Nat.succ_mul]
    have := Int.natAbs_add_le (sumI f i) (f i)
    have := h i (by omega)
    omega
theorem sum_ln {f : Nat → Int} {c : Nat} (h : ∀ q, q < c → (f q).natAbs ≤ MB * MB) {i : Nat} (hi : i ≤ c) (hc : c ≤ 72) : ln (sumI f i).natAbs ≤ 1000 := by
  refine Nat.le_trans (ln_le (k := 47) (Nat.lt_of_le_of_lt (Nat.le_trans (sumV_bd h i hi) (Nat.mul_le_mul_right _ (show i ≤ 72 by omega))) ?_)) (by omega)
  decide +kernel
theorem ln_zero_iff {z : Int} : ln z.natAbs = 0 ↔ z = 0 := by
  rw [(len_ln z.natAbs).zero_iff]
  omega
set_option maxHeartbeats 16000000 in
set_option maxRecDepth 20000 in
theorem after_sp (n k cnt : Nat) (D : Int) (h : DOk n k D) (ec : cnt = (k - 2 + 1) * (pts n).length) (hc : cnt ≤ 72) (V : Nat → Int) (hV : ∀ q, (V q).natAbs ≤ MB) (a b c d : Int) (hM : MOk a b c d) : Sp CX 29 [specA n k D, zsA V cnt, matA a b c d] (.tup [.c (zsL (fun m => sumI (fun q => V q * vS n D (k - 2) q a b c d m) cnt) cnt), .c (.x (.bool true))]) := by
  have s0 := (zero40_sp cnt (by omega)).frz
  have hap := fun i (hi : i < cnt) => Apply_ok n k i D a b c d h (ec ▸ hi) hM
  rw [← ec] at hap
  have hvb : ∀ q, q < cnt → ∀ m, (vS n D (k - 2) q a b c d m).natAbs ≤ MB := fun q hq m => vS_bd h hM (ec ▸ hq) m
  refine fn_sp (C := CX) [] [] tysX_ok mixed Tryd.func29 rfl (by kernel_rfl) Tryd.ntmps29 rfl rfl ?_
  repeat' ((conv => whnf); first | refine Ob.g ?_ | refine WrOb.g ?_ | refine WrOb.u32 ?_ | refine WrOb.u64 ?_ | refine Cases.y ?_ | refine Cases.n ?_ | refine Idx.g rfl ?_ | refine Idx.z rfl ?_ | refine DrawOb.start ?_ | refine TryF.f ?_ | refine TryF.next rfl ?_ | refine TryF.other ?_ | refine TryA.g ?_ | refine TryA.next rfl ?_ | refine TryA.other ?_ | refine TryS.g ?_ | refine TryS.next rfl ?_ | refine TryS.other ?_ | refine TryG.g ?_ | refine TryG.next rfl ?_ | refine TryG.other ?_ | refine TryT.g ?_ | refine Sp.g (s0) ?_)
  refine ⟨⟨Nat × (Nat → Int), fun (i, Z) => ⟨[(1, zsA V cnt), (3, .v (.c (.loc 0 0))), (5, .v (.c (.loc 1 0))), (8, zsA Z cnt), (9, int .i64 i)], [(1, .st [ix a, ix b, ix c, ix d]), (0, .st [ix n, ix k, ix D])], 2⟩, fun (i, Z) => i ≤ cnt ∧ ∀ m, m < cnt → Z m = sumI (fun q => V q * vS n D (k - 2) q a b c d m) i, fun (i, _) => cnt - i, ⟨(0, fun _ => 0), [], ⟨Nat.zero_le _, fun _ _ => rfl⟩, Ent.g⟩, ?_⟩⟩
  rintro ⟨i, Z⟩ ⟨i1, hZ⟩
  by_cases hi : i < cnt
  · have hdec : cnt - (i + 1) < cnt - i := by omega
    by_cases h0 : V i = 0
    · have hn : ∀ m, m < cnt → Z m = sumI (fun q => V q * vS n D (k - 2) q a b c d m) (i + 1) := fun m hm => by rw [hZ m hm, sumI, h0, Int.zero_mul, Int.add_zero]
      have hl : ln (V i).natAbs = 0 := ln_zero_iff.2 h0
      clear hap hZ
      repeat' ((conv => whnf); first | (refine Idx.mk ⟨i, rfl, hi, ?_⟩) | refine Ob.g ?_ | refine WrOb.g ?_ | refine WrOb.u32 ?_ | refine WrOb.u64 ?_ | refine Cases.y ?_ | refine Cases.n ?_ | refine Idx.g rfl ?_ | refine Idx.z rfl ?_ | refine DrawOb.start ?_ | refine TryF.f ?_ | refine TryF.next rfl ?_ | refine TryF.other ?_ | refine TryA.g ?_ | refine TryA.next rfl ?_ | refine TryA.other ?_ | refine TryS.g ?_ | refine TryS.next rfl ?_ | refine TryS.other ?_ | refine TryG.g ?_ | refine TryG.next rfl ?_ | refine TryG.other ?_ | refine TryT.g ?_)
      exact ⟨(i + 1, Z), [], ⟨hi, hn⟩, hdec, Ent.g⟩
    · have hl : ¬ ln (V i).natAbs = 0 := fun e => h0 (ln_zero_iff.1 e)
      have hl2 : ((ln (V i).natAbs : Nat) : Int) ≠ 0 := by omega
      have s1 := hap i hi
      have s2 := add40_sp Z (vS n D (k - 2) i a b c d) (V i) cnt (by omega) (Nat.le_trans (MB_ln (c := 1) (by have := hV i; omega) (by omega)) (by omega)) (fun m hm => by
        rw [hZ m hm]
        exact sum_ln (c := cnt) (fun q hq => by
          rw [Int.natAbs_mul]
          exact Nat.mul_le_mul (hV q) (hvb q hq m)) i1 hc) (fun m hm => Nat.le_trans (vS_ln h hM (ec ▸ hi) m) (by omega))
      have hn : ∀ m, m < cnt → Z m + V i * vS n D (k - 2) i a b c d m = sumI (fun q => V q * vS n D (k - 2) q a b c d m) (i + 1) := fun m hm => by rw [hZ m hm, sumI]
      clear hap hZ
      repeat' ((conv => whnf); first | (refine Idx.mk ⟨i, rfl, hi, ?_⟩) | refine Ob.g ?_ | refine WrOb.g ?_ | refine WrOb.u32 ?_ | refine WrOb.u64 ?_ | refine Cases.y ?_ | refine Cases.n ?_ | refine Idx.g rfl ?_ | refine Idx.z rfl ?_ | refine DrawOb.start ?_ | refine TryF.f ?_ | refine TryF.next rfl ?_ | refine TryF.other ?_ | refine TryA.g ?_ | refine TryA.next rfl ?_ | refine TryA.other ?_ | refine TryS.g ?_ | refine TryS.next rfl ?_ | refine TryS.other ?_ | refine TryG.g ?_ | refine TryG.next rfl ?_ | refine TryG.other ?_ | refine TryT.g ?_ | refine Sp.g (s1) ?_ | refine Sp.g (s2) ?_)
      exact ⟨(i + 1, _), [], ⟨hi, hn⟩, hdec, Ent.g⟩
  · obtain rfl : i = cnt := by omega
    repeat' ((conv => whnf); first | refine Ob.g ?_ | refine WrOb.g ?_ | refine WrOb.u32 ?_ | refine WrOb.u64 ?_ | refine Cases.y ?_ | refine Cases.n ?_ | refine Idx.g rfl ?_ | refine Idx.z rfl ?_ | refine DrawOb.start ?_ | refine TryF.f ?_ | refine TryF.next rfl ?_ | refine TryF.other ?_ | refine TryA.g ?_ | refine TryA.next rfl ?_ | refine TryA.other ?_ | refine TryS.g ?_ | refine TryS.next rfl ?_ | refine TryS.other ?_ | refine TryG.g ?_ | refine TryG.next rfl ?_ | refine TryG.other ?_ | refine TryT.g ?_)
    refine ⟨⟨_, _, rfl, rfl, ?_⟩⟩
    exact .tup (.cons (.leaf (.sl fun m j hm _ => by rw [hZ m hm]; exact .refl _)) (.cons (.refl _) .nil))
theorem unit_prod {a b : Int} (h : a * b = 1) : (a = 1 ∧ b = 1) ∨ (a = -1 ∧ b = -1) := by
  have h1 : a.natAbs * b.natAbs = 1 := by rw [← Int.natAbs_mul, h]; rfl
  have ha : a.natAbs = 1 := Nat.dvd_one.1 ⟨_, h1.symm⟩
  have h2 : a = 1 ∨ a = -1 := by omega
  rcases h2 with rfl | rfl
  · exact .inl ⟨rfl, by omega⟩
  · exact .inr ⟨rfl, by omega⟩
/-- the star of a vector -/
def starZ (n : Nat) (D : Int) (V : Nat → Int) (m : Nat) : Int := stS n D (stI n m) * V (stI n m)
set_option maxHeartbeats 16000000 in
set_option maxRecDepth 20000 in
theorem starred_sp (n k cnt : Nat) (D : Int) (h : DOk n k D) (ec : cnt = (k - 2 + 1) * (pts n).length) (hc : cnt ≤ 72) (V : Nat → Int) (hV : ∀ q, (V q).natAbs ≤ MB) : Sp CX 34 [specA n k D, zsA V cnt] (.tup [.c (zsL (starZ n D V) cnt), .c (.x (.bool true))]) := by
  have s0 := zero40_sp cnt (by omega)
  have S : Sp40 n D := ⟨h.n0, h.dz, h.d4, h.dvd⟩
  have hst := fun i (hi : i < cnt) => Star_ok n k i D h (ec ▸ hi)
  have hlt := fun i (hi : i < cnt) => ec.symm ▸ stI_lt (w := k - 2) (r := i) (show 0 < n from h.n0) (ec ▸ hi)
  have hss := fun i (hi : i < cnt) => star_star (w := k - 2) (r := i) S (ec ▸ hi)
  have hsg : ∀ i, i < cnt → stS n D i = 1 ∨ stS n D i = -1 := fun i hi => by
    have h1 := (hss i hi).2
    rcases unit_prod h1 with ⟨e, _⟩ | ⟨e, _⟩
    · exact .inl e
    · exact .inr e
  refine fn_sp (C := CX) [] [1] tysX_ok mixed Tryd.func34 rfl (by kernel_rfl) Tryd.ntmps34 rfl rfl ?_
  repeat' ((conv => whnf); first | refine Ob.g ?_ | refine WrOb.g ?_ | refine WrOb.u32 ?_ | refine WrOb.u64 ?_ | refine Cases.y ?_ | refine Cases.n ?_ | refine Idx.g rfl ?_ | refine Idx.z rfl ?_ | refine DrawOb.start ?_ | refine TryF.f ?_ | refine TryF.next rfl ?_ | refine TryF.other ?_ | refine TryA.g ?_ | refine TryA.next rfl ?_ | refine TryA.other ?_ | refine TryS.g ?_ | refine TryS.next rfl ?_ | refine TryS.other ?_ | refine TryG.g ?_ | refine TryG.next rfl ?_ | refine TryG.other ?_ | refine TryT.g ?_ | refine SpR.call (s0) (ArgsLe.refl _) rfl rfl ?_)
  refine ⟨⟨Nat × (Nat → Int), fun (i, Z) => ⟨[(1, zsA V cnt), (2, .v (.c (.loc 0 0))), (6, .v (.c (.row 1))), (7, int .i64 i)], [(1, .rw 2 69 false Int zL Z cnt), (0, .st [ix n, ix k, ix D])], 2⟩, fun (i, Z) => i ≤ cnt ∧ ∀ m, m < cnt → Z m = if stI n m < i then starZ n D V m else 0, fun (i, _) => cnt - i, ⟨(0, fun _ => 0), [], ⟨Nat.zero_le _, fun _ _ => by rw [if_neg (Nat.not_lt_zero _)]⟩, Ent.g⟩, ?_⟩⟩
  rintro ⟨i, Z⟩ ⟨i1, hZ⟩
  by_cases hi : i < cnt
  · have hdec : cnt - (i + 1) < cnt - i := by omega
    have s1 := hst i hi
    have hl := hlt i hi
    have hg := hsg i hi
    have sz := Z_sp (stS n D i) (by omega) (by omega)
    have sm := rMul_sp (stS n D i) (V i) (Nat.le_trans (ln_two (by omega)) (by omega)) (Nat.le_trans (MB_ln (c := 1) (by have := hV i; omega) (by omega)) (by omega))
    have hn : ∀ m, m < cnt → setZ Int Z (stI n i) (stS n D i * V i) m = if stI n m < i + 1 then starZ n D V m else 0 := fun m hm => by
      unfold setZ
      by_cases e : m = stI n i
      · have e2 : stI n m = i := by rw [e]; exact (hss i hi).1
        rw [if_pos e, e2, if_pos (by omega)]
        unfold starZ
        rw [e2]
      · have e2 : stI n m ≠ i := fun e2 => e (by rw [← e2]; exact (hss m hm).1.symm)
        rw [if_neg e, hZ m hm]
        by_cases e3 : stI n m < i
        · rw [if_pos e3, if_pos (by omega)]
        · rw [if_neg e3, if_neg (by omega)]
    clear hst hlt hss hsg hZ
    generalize stI n i = j at *
    generalize stS n D i = sg at *
    repeat' ((conv => whnf); first | (refine Idx.mk ⟨i, rfl, hi, ?_⟩) | (refine Idx.mk ⟨j, rfl, hl, ?_⟩) | refine Ob.g ?_ | refine WrOb.g ?_ | refine WrOb.u32 ?_ | refine WrOb.u64 ?_ | refine Cases.y ?_ | refine Cases.n ?_ | refine Idx.g rfl ?_ | refine Idx.z rfl ?_ | refine DrawOb.start ?_ | refine TryF.f ?_ | refine TryF.next rfl ?_ | refine TryF.other ?_ | refine TryA.g ?_ | refine TryA.next rfl ?_ | refine TryA.other ?_ | refine TryS.g ?_ | refine TryS.next rfl ?_ | refine TryS.other ?_ | refine TryG.g ?_ | refine TryG.next rfl ?_ | refine TryG.other ?_ | refine TryT.g ?_ | refine Sp.g (s1) ?_ | refine Sp.g (sz) ?_ | refine Sp.g (sm) ?_)
    refine ⟨⟨sg * V i, rfl, ?_⟩⟩
    repeat' ((conv => whnf); first | refine Ob.g ?_ | refine WrOb.g ?_ | refine WrOb.u32 ?_ | refine WrOb.u64 ?_ | refine Cases.y ?_ | refine Cases.n ?_ | refine Idx.g rfl ?_ | refine Idx.z rfl ?_ | refine DrawOb.start ?_ | refine TryF.f ?_ | refine TryF.next rfl ?_ | refine TryF.other ?_ | refine TryA.g ?_ | refine TryA.next rfl ?_ | refine TryA.other ?_ | refine TryS.g ?_ | refine TryS.next rfl ?_ | refine TryS.other ?_ | refine TryG.g ?_ | refine TryG.next rfl ?_ | refine TryG.other ?_ | refine TryT.g ?_)
    exact ⟨(i + 1, _), [], ⟨hi, hn⟩, hdec, Ent.g⟩
  · obtain rfl : i = cnt := by omega
    repeat' ((conv => whnf); first | refine Ob.g ?_ | refine WrOb.g ?_ | refine WrOb.u32 ?_ | refine WrOb.u64 ?_ | refine Cases.y ?_ | refine Cases.n ?_ | refine Idx.g rfl ?_ | refine Idx.z rfl ?_ | refine DrawOb.start ?_ | refine TryF.f ?_ | refine TryF.next rfl ?_ | refine TryF.other ?_ | refine TryA.g ?_ | refine TryA.next rfl ?_ | refine TryA.other ?_ | refine TryS.g ?_ | refine TryS.next rfl ?_ | refine TryS.other ?_ | refine TryG.g ?_ | refine TryG.next rfl ?_ | refine TryG.other ?_ | refine TryT.g ?_)
    refine ⟨⟨_, _, rfl, rfl, ?_⟩⟩
    exact .tup (.cons (.leaf (.sl fun m j hm _ => by rw [hZ m hm, if_pos (hlt m hm)]; exact .refl _)) (.cons (.refl _) .nil))
/-- small entries -/
def WOk (a b c d : Int) : Prop := (-60 ≤ a ∧ a ≤ 60) ∧ (-60 ≤ b ∧ b ≤ 60) ∧ (-60 ≤ c ∧ c ≤ 60) ∧ (-60 ≤ d ∧ d ≤ 60)
instance (a b c d : Int) : Decidable (WOk a b c d) := by unfold WOk; infer_instance
theorem mx_le {a b x : Int} : (if a < b then b else a) ≤ x ↔ a ≤ x ∧ b ≤ x := by split <;> omega
theorem mn_ge {a b x : Int} : x ≤ (if b < a then b else a) ↔ x ≤ a ∧ x ≤ b := by split <;> omega
theorem within40_sp (a b c d : Int) : Sp CX 28 [matA a b c d] (bool (decide (WOk a b c d))) := by
  by_cases h1 : a ≤ 60 ∧ b ≤ 60 ∧ c ≤ 60 ∧ d ≤ 60
  · have m1 := mx_le.2 ⟨mx_le.2 ⟨mx_le.2 ⟨h1.1, h1.2.1⟩, h1.2.2.1⟩, h1.2.2.2⟩
    by_cases h2 : -60 ≤ a ∧ -60 ≤ b ∧ -60 ≤ c ∧ -60 ≤ d
    · have m2 := mn_ge.2 ⟨mn_ge.2 ⟨mn_ge.2 ⟨h2.1, h2.2.1⟩, h2.2.2.1⟩, h2.2.2.2⟩
      have hw : WOk a b c d := ⟨⟨h2.1, h1.1⟩, ⟨h2.2.1, h1.2.1⟩, ⟨h2.2.2.1, h1.2.2.1⟩, ⟨h2.2.2.2, h1.2.2.2⟩⟩
      rw [decide_eq_true hw]
      refine fn_sp (C := CX) [] [] tysX_ok mixed Tryd.func28 rfl (by kernel_rfl) Tryd.ntmps28 rfl rfl ?_
      repeat' ((conv => whnf); first | (refine Cases.y ?_ (decide_eq_true m1)) | refine Ob.g ?_ | refine WrOb.g ?_ | refine WrOb.u32 ?_ | refine WrOb.u64 ?_ | refine Cases.y ?_ | refine Cases.n ?_ | refine Idx.g rfl ?_ | refine Idx.z rfl ?_ | refine DrawOb.start ?_ | refine TryF.f ?_ | refine TryF.next rfl ?_ | refine TryF.other ?_ | refine TryA.g ?_ | refine TryA.next rfl ?_ | refine TryA.other ?_ | refine TryS.g ?_ | refine TryS.next rfl ?_ | refine TryS.other ?_ | refine TryG.g ?_ | refine TryG.next rfl ?_ | refine TryG.other ?_ | refine TryT.g ?_)
      refine ⟨⟨_, _, rfl, rfl, ?_⟩⟩
      exact AvLe.bool (decide_eq_true m2)
    · have hw : ¬ WOk a b c d := fun ⟨x, y, z, t⟩ => h2 ⟨x.1, y.1, z.1, t.1⟩
      have m2 := fun e => h2 (let e := mn_ge.1 e; let f := mn_ge.1 e.1; let g := mn_ge.1 f.1; ⟨g.1, g.2, f.2, e.2⟩)
      rw [decide_eq_false hw]
      refine fn_sp (C := CX) [] [] tysX_ok mixed Tryd.func28 rfl (by kernel_rfl) Tryd.ntmps28 rfl rfl ?_
      repeat' ((conv => whnf); first | (refine Cases.y ?_ (decide_eq_true m1)) | refine Ob.g ?_ | refine WrOb.g ?_ | refine WrOb.u32 ?_ | refine WrOb.u64 ?_ | refine Cases.y ?_ | refine Cases.n ?_ | refine Idx.g rfl ?_ | refine Idx.z rfl ?_ | refine DrawOb.start ?_ | refine TryF.f ?_ | refine TryF.next rfl ?_ | refine TryF.other ?_ | refine TryA.g ?_ | refine TryA.next rfl ?_ | refine TryA.other ?_ | refine TryS.g ?_ | refine TryS.next rfl ?_ | refine TryS.other ?_ | refine TryG.g ?_ | refine TryG.next rfl ?_ | refine TryG.other ?_ | refine TryT.g ?_)
      refine ⟨⟨_, _, rfl, rfl, ?_⟩⟩
      exact AvLe.bool (decide_eq_false m2)
  · have hw : ¬ WOk a b c d := fun ⟨x, y, z, t⟩ => h1 ⟨x.2, y.2, z.2, t.2⟩
    have m1 := fun e => h1 (let e := mx_le.1 e; let f := mx_le.1 e.1; let g := mx_le.1 f.1; ⟨g.1, g.2, f.2, e.2⟩)
    rw [decide_eq_false hw]
    refine fn_sp (C := CX) [] [] tysX_ok mixed Tryd.func28 rfl (by kernel_rfl) Tryd.ntmps28 rfl rfl ?_
    repeat' ((conv => whnf); first | (refine Cases.n ?_ (decide_eq_false m1)) | refine Ob.g ?_ | refine WrOb.g ?_ | refine WrOb.u32 ?_ | refine WrOb.u64 ?_ | refine Cases.y ?_ | refine Cases.n ?_ | refine Idx.g rfl ?_ | refine Idx.z rfl ?_ | refine DrawOb.start ?_ | refine TryF.f ?_ | refine TryF.next rfl ?_ | refine TryF.other ?_ | refine TryA.g ?_ | refine TryA.next rfl ?_ | refine TryA.other ?_ | refine TryS.g ?_ | refine TryS.next rfl ?_ | refine TryS.other ?_ | refine TryG.g ?_ | refine TryG.next rfl ?_ | refine TryG.other ?_ | refine TryT.g ?_)
    refine ⟨⟨_, _, rfl, rfl, ?_⟩⟩
    exact AvLe.refl _
theorem dok3 : DOk 3 3 (-3) := ⟨by omega, by omega, by omega, by omega, by omega, by omega, by omega, by omega, .inr (by decide +kernel), by decide, by omega, by decide +kernel⟩
theorem dok1 : DOk 1 4 1 := ⟨by omega, by omega, by omega, by omega, by omega, by omega, by omega, by omega, .inl rfl, by decide, by omega, by decide +kernel⟩
def aw3 (i : Nat) : Int := if i = 1 then -1 else 0
theorem aw_args : ArgsLe [.v (.c (.sl 1 Nat (fun i j => getL [ix 0, ix (-1), ix 0] (i * 1 + j)) id 3))] [.v (.c (.sl 1 Int (fun z _ => ix z) aw3 3))] := .cons (.leaf (.sl fun i j hi hj => by
  obtain rfl : j = 0 := by omega
  rcases (show i = 0 ∨ i = 1 ∨ i = 2 by omega) with rfl | rfl | rfl <;> exact .refl _)) .nil
set_option maxHeartbeats 4000000 in
theorem awake40_sp : Sp CX 12 [] (bool true) := by
  have s1 : Sp CX 14 [specA 3 3 (-3), manA 1 2 0] (.tup [.c (ix 5), .c (ix (-1)), .c (ix 0)]) := by
    have := Number_ok 3 3 1 (-3) 2 0 dok3 (by omega) (by decide +kernel)
    rw [show pSg 3 (-3) (pr 3 2 0) = -1 by decide +kernel, show 1 * (pts 3).length + pIx 3 (pr 3 2 0) = 5 by decide +kernel] at this
    exact this
  have s2 : Sp CX 25 [specA 1 4 1, int .i64 1, matA 0 (-1) 1 0] (.tup [.c (zsL aw3 3), .c (ix 0)]) := by
    have := Apply_ok 1 4 1 1 0 (-1) 1 0 dok1 (by decide +kernel) (by decide)
    rw [show (4 - 2 + 1) * (pts 1).length = 3 by decide +kernel] at this
    refine this.weak (.tup (.cons (.leaf (.sl fun i j hi _ => ?_)) (.cons (.refl _) .nil))) rfl
    rcases (show i = 0 ∨ i = 1 ∨ i = 2 by omega) with rfl | rfl | rfl
    · rw [show vS 1 1 (4 - 2) 1 0 (-1) 1 0 0 = aw3 0 by decide +kernel]; exact .refl _
    · rw [show vS 1 1 (4 - 2) 1 0 (-1) 1 0 1 = aw3 1 by decide +kernel]; exact .refl _
    · rw [show vS 1 1 (4 - 2) 1 0 (-1) 1 0 2 = aw3 2 by decide +kernel]; exact .refl _
  have hb : ∀ i, -1 ≤ aw3 i ∧ aw3 i ≤ 0 := fun i => by unfold aw3; split <;> omega
  have s3 := (Zs_sp aw3 3 (by omega) (fun i _ => by have := hb i; omega) (fun i _ => by have := hb i; omega)).frz
  have s4 := SameInts_sp aw3 3 (by omega) (fun i _ => Nat.le_trans (ln_two (by have := hb i; omega)) (by omega))
  refine fn_sp (C := CX) [] [] tysX_ok mixed Tryd.func12 rfl (by kernel_rfl) Tryd.ntmps12 rfl rfl ?_
  repeat' ((conv => whnf); first | refine Ob.g ?_ | refine WrOb.g ?_ | refine WrOb.u32 ?_ | refine WrOb.u64 ?_ | refine Cases.y ?_ | refine Cases.n ?_ | refine Idx.g rfl ?_ | refine Idx.z rfl ?_ | refine DrawOb.start ?_ | refine TryF.f ?_ | refine TryF.next rfl ?_ | refine TryF.other ?_ | refine TryA.g ?_ | refine TryA.next rfl ?_ | refine TryA.other ?_ | refine TryS.g ?_ | refine TryS.next rfl ?_ | refine TryS.other ?_ | refine TryG.g ?_ | refine TryG.next rfl ?_ | refine TryG.other ?_ | refine TryT.g ?_ | refine Sp.g (s1) ?_ | refine Sp.g (s2) ?_ | refine Sp.call (s3) (aw_args) rfl (AvLe.refl _) ?_ | refine Sp.g (s4) ?_)
  refine ⟨⟨_, _, rfl, rfl, ?_⟩⟩
  exact AvLe.refl _
end Go.Proofs.YtedfcemebdlgfaaDoor

/- The statements about Manin symbols, walked: Counts, Numbers, Applies, Stars, Scales. -/
namespace Go.Proofs.YtedfcemebdlgfaaDoor
open Go Go.RowKit Go.VG HP
theorem run_eqmn (a b c a' b' c' : Int) (w : World) : (Op.equal 25 (.agg #[.int .i64 a, .int .i64 b, .int .i64 c]) (.agg #[.int .i64 a', .int .i64 b', .int .i64 c'])).run Tryd.prog w = .ok (decide (a = a' ∧ b = b' ∧ c = c')) w := by
  have hs : Tryd.prog.stoodInHeld 25 = false := by kernel_rfl
  have h3 : ∀ x y w, (Op.equalIn 9999 3 (.int .i64 x) (.int .i64 y)).run Tryd.prog w = .ok (x == y) w := fun x y w => by
    unfold Op.equalIn
    simp [run_underlying Tryd.underlying3]
  have p0 : ∀ (a b c : Int) w, (part 3 #[.int .i64 a, .int .i64 b, .int .i64 c] 0).run Tryd.prog w = .ok (.int .i64 a) w := fun a b c w => run_part (tysOk_get (l := tysX) (t := 3) tysX_ok rfl) [.int .i64 a, .int .i64 b, .int .i64 c] 0 w (Nat.le_of_ble_eq_true rfl) rfl
  have p1 : ∀ (a b c : Int) w, (part 3 #[.int .i64 a, .int .i64 b, .int .i64 c] 1).run Tryd.prog w = .ok (.int .i64 b) w := fun a b c w => run_part (tysOk_get (l := tysX) (t := 3) tysX_ok rfl) [.int .i64 a, .int .i64 b, .int .i64 c] 1 w (Nat.le_of_ble_eq_true rfl) rfl
  have p2 : ∀ (a b c : Int) w, (part 3 #[.int .i64 a, .int .i64 b, .int .i64 c] 2).run Tryd.prog w = .ok (.int .i64 c) w := fun a b c w => run_part (tysOk_get (l := tysX) (t := 3) tysX_ok rfl) [.int .i64 a, .int .i64 b, .int .i64 c] 2 w (Nat.le_of_ble_eq_true rfl) rfl
  unfold Op.equal Op.maxDepth Op.equalIn
  simp [run_underlying Tryd.underlying25, hs, h3, p0, p1, p2]
  by_cases e1 : a = a' <;> by_cases e2 : b = b' <;> by_cases e3 : c = c' <;> simp [e1, e2, e3]
theorem mn_eqob {K : Bool → Prop} (a b c : Int) (h : K true) : EqOb CX .eql 25 [ix a, ix b, ix c] [ix a, ix b, ix c] K := by
  refine ⟨⟨true, h, fun x y ρ cs cs' w h1 h2 => ?_⟩⟩
  match cs, h1 with
  | [_, _, _], ⟨⟨_, e1⟩, ⟨_, e2⟩, ⟨_, e3⟩, _⟩ =>
  match cs', h2 with
  | [_, _, _], ⟨⟨_, f1⟩, ⟨_, f2⟩, ⟨_, f3⟩, _⟩ =>
  cases e1; cases e2; cases e3; cases f1; cases f2; cases f3
  have hg : Tryd.prog.eqGuardType Tryd.prog.depth 25 = false := by kernel_rfl
  have hr := run_eqmn a b c a b c w
  rw [decide_eq_true (⟨rfl, rfl, rfl⟩ : a = a ∧ b = b ∧ c = c)] at hr
  show (do eqGuard .eql _ x y _ _; binOp .eql _ _ _ : Sem Value).run Tryd.prog w = _
  simp [eqGuard, hg, binOp, hr]
set_option maxHeartbeats 4000000 in
theorem law_counts (L K D r : Int) : Sp CX 4 [specA L K D, int .i64 r] (bool true) := by
  have sa := awake40_sp
  by_cases hd : dchk L K D = 0
  · obtain ⟨n, k, rfl, rfl, h⟩ := dchk_out hd
    have sl := Large_ok n k D h
    by_cases hc : 72 < (k - 2 + 1) * (pts n).length
    · rw [decide_eq_true hc] at sl
      refine fn_sp (C := CX) [] [] tysX_ok mixed Tryd.func4 rfl (by kernel_rfl) Tryd.ntmps4 rfl rfl ?_
      repeat' ((conv => whnf); first | refine Ob.g ?_ | refine WrOb.g ?_ | refine WrOb.u32 ?_ | refine WrOb.u64 ?_ | refine Cases.y ?_ | refine Cases.n ?_ | refine Idx.g rfl ?_ | refine Idx.z rfl ?_ | refine DrawOb.start ?_ | refine TryF.f ?_ | refine TryF.next rfl ?_ | refine TryF.other ?_ | refine TryA.g ?_ | refine TryA.next rfl ?_ | refine TryA.other ?_ | refine TryS.g ?_ | refine TryS.next rfl ?_ | refine TryS.other ?_ | refine TryG.g ?_ | refine TryG.next rfl ?_ | refine TryG.other ?_ | refine TryT.g ?_ | refine Sp.g (sa) ?_ | refine Sp.g (sl) ?_)
      refine ⟨⟨_, _, rfl, rfl, ?_⟩⟩
      exact AvLe.refl _
    · rw [decide_eq_false hc] at sl
      have s1 := Count_ok n k D h
      have s2 := rCount_ok n k D h
      by_cases hr : 0 ≤ r ∧ r < ((k - 2 + 1) * (pts n).length : Nat)
      · obtain ⟨m, rfl⟩ : ∃ m : Nat, r = m := ⟨r.toNat, by omega⟩
        have s3 := Symbol_ok n k m D h (by omega)
        have s4 := rSymbol_ok n k m D h (by omega)
        unfold msyV at s4
        refine fn_sp (C := CX) [] [] tysX_ok mixed Tryd.func4 rfl (by kernel_rfl) Tryd.ntmps4 rfl rfl ?_
        repeat' ((conv => whnf); first | refine Ob.g ?_ | refine WrOb.g ?_ | refine WrOb.u32 ?_ | refine WrOb.u64 ?_ | refine Cases.y ?_ | refine Cases.n ?_ | refine Idx.g rfl ?_ | refine Idx.z rfl ?_ | refine DrawOb.start ?_ | refine TryF.f ?_ | refine TryF.next rfl ?_ | refine TryF.other ?_ | refine TryA.g ?_ | refine TryA.next rfl ?_ | refine TryA.other ?_ | refine TryS.g ?_ | refine TryS.next rfl ?_ | refine TryS.other ?_ | refine TryG.g ?_ | refine TryG.next rfl ?_ | refine TryG.other ?_ | refine TryT.g ?_ | refine Sp.g (sa) ?_ | refine Sp.g (sl) ?_ | refine Sp.g (s1) ?_ | refine Sp.g (s2) ?_ | refine Sp.g (s3) ?_ | refine Sp.g (s4) ?_ | (refine mn_eqob _ _ _ ?_))
        refine ⟨⟨_, _, rfl, rfl, ?_⟩⟩
        exact AvLe.refl _
      · have s3 := Symbol_out n k D r h hr
        have s4 := rSymbol_out n k D r h hr
        refine fn_sp (C := CX) [] [] tysX_ok mixed Tryd.func4 rfl (by kernel_rfl) Tryd.ntmps4 rfl rfl ?_
        repeat' ((conv => whnf); first | refine Ob.g ?_ | refine WrOb.g ?_ | refine WrOb.u32 ?_ | refine WrOb.u64 ?_ | refine Cases.y ?_ | refine Cases.n ?_ | refine Idx.g rfl ?_ | refine Idx.z rfl ?_ | refine DrawOb.start ?_ | refine TryF.f ?_ | refine TryF.next rfl ?_ | refine TryF.other ?_ | refine TryA.g ?_ | refine TryA.next rfl ?_ | refine TryA.other ?_ | refine TryS.g ?_ | refine TryS.next rfl ?_ | refine TryS.other ?_ | refine TryG.g ?_ | refine TryG.next rfl ?_ | refine TryG.other ?_ | refine TryT.g ?_ | refine Sp.g (sa) ?_ | refine Sp.g (sl) ?_ | refine Sp.g (s1) ?_ | refine Sp.g (s2) ?_ | refine Sp.g (s3) ?_ | refine Sp.g (s4) ?_ | (refine mn_eqob _ _ _ ?_))
        refine ⟨⟨_, _, rfl, rfl, ?_⟩⟩
        exact AvLe.refl _
  · have sl := Large_bad L K D hd
    have s1 := Count_bad L K D hd
    have s2 := rCount_bad L K D hd
    have s3 := Symbol_bad L K D r hd
    have s4 := rSymbol_bad L K D r hd
    generalize dchk L K D = e at *
    refine fn_sp (C := CX) [] [] tysX_ok mixed Tryd.func4 rfl (by kernel_rfl) Tryd.ntmps4 rfl rfl ?_
    repeat' ((conv => whnf); first | refine Ob.g ?_ | refine WrOb.g ?_ | refine WrOb.u32 ?_ | refine WrOb.u64 ?_ | refine Cases.y ?_ | refine Cases.n ?_ | refine Idx.g rfl ?_ | refine Idx.z rfl ?_ | refine DrawOb.start ?_ | refine TryF.f ?_ | refine TryF.next rfl ?_ | refine TryF.other ?_ | refine TryA.g ?_ | refine TryA.next rfl ?_ | refine TryA.other ?_ | refine TryS.g ?_ | refine TryS.next rfl ?_ | refine TryS.other ?_ | refine TryG.g ?_ | refine TryG.next rfl ?_ | refine TryG.other ?_ | refine TryT.g ?_ | refine Sp.g (sa) ?_ | refine Sp.g (sl) ?_ | refine Sp.g (s1) ?_ | refine Sp.g (s2) ?_ | refine Sp.g (s3) ?_ | refine Sp.g (s4) ?_ | (refine mn_eqob _ _ _ ?_))
    refine ⟨⟨_, _, rfl, rfl, ?_⟩⟩
    exact AvLe.bool (decide_eq_true rfl)
set_option maxHeartbeats 4000000 in
theorem law_numbers (L K D i u v : Int) : Sp CX 3 [specA L K D, manA i u v] (bool true) := by
  have sa := awake40_sp
  by_cases hd : dchk L K D = 0
  · obtain ⟨n, k, rfl, rfl, h⟩ := dchk_out hd
    have sl := Large_ok n k D h
    by_cases hc : 72 < (k - 2 + 1) * (pts n).length
    · rw [decide_eq_true hc] at sl
      refine fn_sp (C := CX) [] [] tysX_ok mixed Tryd.func3 rfl (by kernel_rfl) Tryd.ntmps3 rfl rfl ?_
      repeat' ((conv => whnf); first | refine Ob.g ?_ | refine WrOb.g ?_ | refine WrOb.u32 ?_ | refine WrOb.u64 ?_ | refine Cases.y ?_ | refine Cases.n ?_ | refine Idx.g rfl ?_ | refine Idx.z rfl ?_ | refine DrawOb.start ?_ | refine TryF.f ?_ | refine TryF.next rfl ?_ | refine TryF.other ?_ | refine TryA.g ?_ | refine TryA.next rfl ?_ | refine TryA.other ?_ | refine TryS.g ?_ | refine TryS.next rfl ?_ | refine TryS.other ?_ | refine TryG.g ?_ | refine TryG.next rfl ?_ | refine TryG.other ?_ | refine TryT.g ?_ | refine Sp.g (sa) ?_ | refine Sp.g (sl) ?_)
      refine ⟨⟨_, _, rfl, rfl, ?_⟩⟩
      exact AvLe.refl _
    · rw [decide_eq_false hc] at sl
      by_cases hi : 0 ≤ i ∧ i ≤ (k - 2 : Nat)
      · obtain ⟨j, rfl⟩ : ∃ j : Nat, i = j := ⟨i.toNat, by omega⟩
        by_cases hp : pSg n D (pr n u v) = 0
        · have s1 := Number_no n k j D u v h (by omega) hp
          have s2 := rNumber_no n k j D u v h (by omega) hp
          refine fn_sp (C := CX) [] [] tysX_ok mixed Tryd.func3 rfl (by kernel_rfl) Tryd.ntmps3 rfl rfl ?_
          repeat' ((conv => whnf); first | refine Ob.g ?_ | refine WrOb.g ?_ | refine WrOb.u32 ?_ | refine WrOb.u64 ?_ | refine Cases.y ?_ | refine Cases.n ?_ | refine Idx.g rfl ?_ | refine Idx.z rfl ?_ | refine DrawOb.start ?_ | refine TryF.f ?_ | refine TryF.next rfl ?_ | refine TryF.other ?_ | refine TryA.g ?_ | refine TryA.next rfl ?_ | refine TryA.other ?_ | refine TryS.g ?_ | refine TryS.next rfl ?_ | refine TryS.other ?_ | refine TryG.g ?_ | refine TryG.next rfl ?_ | refine TryG.other ?_ | refine TryT.g ?_ | refine Sp.g (sa) ?_ | refine Sp.g (sl) ?_ | refine Sp.g (s1) ?_ | refine Sp.g (s2) ?_)
          refine ⟨⟨_, _, rfl, rfl, ?_⟩⟩
          exact AvLe.refl _
        · have s1 := Number_ok n k j D u v h (by omega) hp
          have s2 := rNumber_ok n k j D u v h (by omega) hp
          refine fn_sp (C := CX) [] [] tysX_ok mixed Tryd.func3 rfl (by kernel_rfl) Tryd.ntmps3 rfl rfl ?_
          repeat' ((conv => whnf); first | refine Ob.g ?_ | refine WrOb.g ?_ | refine WrOb.u32 ?_ | refine WrOb.u64 ?_ | refine Cases.y ?_ | refine Cases.n ?_ | refine Idx.g rfl ?_ | refine Idx.z rfl ?_ | refine DrawOb.start ?_ | refine TryF.f ?_ | refine TryF.next rfl ?_ | refine TryF.other ?_ | refine TryA.g ?_ | refine TryA.next rfl ?_ | refine TryA.other ?_ | refine TryS.g ?_ | refine TryS.next rfl ?_ | refine TryS.other ?_ | refine TryG.g ?_ | refine TryG.next rfl ?_ | refine TryG.other ?_ | refine TryT.g ?_ | refine Sp.g (sa) ?_ | refine Sp.g (sl) ?_ | refine Sp.g (s1) ?_ | refine Sp.g (s2) ?_)
          refine ⟨⟨_, _, rfl, rfl, ?_⟩⟩
          exact AvLe.refl _
      · have s1 := Number_out n k D i u v h hi
        have s2 := rNumber_out n k D i u v h hi
        refine fn_sp (C := CX) [] [] tysX_ok mixed Tryd.func3 rfl (by kernel_rfl) Tryd.ntmps3 rfl rfl ?_
        repeat' ((conv => whnf); first | refine Ob.g ?_ | refine WrOb.g ?_ | refine WrOb.u32 ?_ | refine WrOb.u64 ?_ | refine Cases.y ?_ | refine Cases.n ?_ | refine Idx.g rfl ?_ | refine Idx.z rfl ?_ | refine DrawOb.start ?_ | refine TryF.f ?_ | refine TryF.next rfl ?_ | refine TryF.other ?_ | refine TryA.g ?_ | refine TryA.next rfl ?_ | refine TryA.other ?_ | refine TryS.g ?_ | refine TryS.next rfl ?_ | refine TryS.other ?_ | refine TryG.g ?_ | refine TryG.next rfl ?_ | refine TryG.other ?_ | refine TryT.g ?_ | refine Sp.g (sa) ?_ | refine Sp.g (sl) ?_ | refine Sp.g (s1) ?_ | refine Sp.g (s2) ?_)
        refine ⟨⟨_, _, rfl, rfl, ?_⟩⟩
        exact AvLe.refl _
  · have sl := Large_bad L K D hd
    have s1 := Number_bad L K D i u v hd
    have s2 := rNumber_bad L K D i u v hd
    generalize dchk L K D = e at *
    refine fn_sp (C := CX) [] [] tysX_ok mixed Tryd.func3 rfl (by kernel_rfl) Tryd.ntmps3 rfl rfl ?_
    repeat' ((conv => whnf); first | refine Ob.g ?_ | refine WrOb.g ?_ | refine WrOb.u32 ?_ | refine WrOb.u64 ?_ | refine Cases.y ?_ | refine Cases.n ?_ | refine Idx.g rfl ?_ | refine Idx.z rfl ?_ | refine DrawOb.start ?_ | refine TryF.f ?_ | refine TryF.next rfl ?_ | refine TryF.other ?_ | refine TryA.g ?_ | refine TryA.next rfl ?_ | refine TryA.other ?_ | refine TryS.g ?_ | refine TryS.next rfl ?_ | refine TryS.other ?_ | refine TryG.g ?_ | refine TryG.next rfl ?_ | refine TryG.other ?_ | refine TryT.g ?_ | refine Sp.g (sa) ?_ | refine Sp.g (sl) ?_ | refine Sp.g (s1) ?_ | refine Sp.g (s2) ?_)
    refine ⟨⟨_, _, rfl, rfl, ?_⟩⟩
    exact AvLe.bool (decide_eq_true rfl)
theorem same_nil : ArgsLe [.v (.c (.x (.slice none 0 0))), .v (.c (.x (.slice none 0 0)))] [zsA (fun _ => 0) 0, zsA (fun _ => 0) 0] := .cons (.leaf .nil) (.cons (.leaf .nil) .nil)
set_option maxHeartbeats 4000000 in
theorem law_applies (L K D r a b c d : Int) : Sp CX 7 [specA L K D, int .i64 r, matA a b c d] (bool true) := by
  have sa := awake40_sp
  have s0 := SameInts_sp (fun _ => 0) 0 (by omega) (fun i hi => by omega)
  by_cases hd : dchk L K D = 0
  · obtain ⟨n, k, rfl, rfl, h⟩ := dchk_out hd
    have sl := Large_ok n k D h
    by_cases hc : 72 < (k - 2 + 1) * (pts n).length
    · rw [decide_eq_true hc] at sl
      refine fn_sp (C := CX) [] [] tysX_ok mixed Tryd.func7 rfl (by kernel_rfl) Tryd.ntmps7 rfl rfl ?_
      repeat' ((conv => whnf); first | refine Ob.g ?_ | refine WrOb.g ?_ | refine WrOb.u32 ?_ | refine WrOb.u64 ?_ | refine Cases.y ?_ | refine Cases.n ?_ | refine Idx.g rfl ?_ | refine Idx.z rfl ?_ | refine DrawOb.start ?_ | refine TryF.f ?_ | refine TryF.next rfl ?_ | refine TryF.other ?_ | refine TryA.g ?_ | refine TryA.next rfl ?_ | refine TryA.other ?_ | refine TryS.g ?_ | refine TryS.next rfl ?_ | refine TryS.other ?_ | refine TryG.g ?_ | refine TryG.next rfl ?_ | refine TryG.other ?_ | refine TryT.g ?_ | refine Sp.g (sa) ?_ | refine Sp.g (sl) ?_)
      refine ⟨⟨_, _, rfl, rfl, ?_⟩⟩
      exact AvLe.refl _
    · rw [decide_eq_false hc] at sl
      by_cases hr : 0 ≤ r ∧ r < ((k - 2 + 1) * (pts n).length : Nat)
      · obtain ⟨m, rfl⟩ : ∃ m : Nat, r = m := ⟨r.toNat, by omega⟩
        by_cases hM : MOk a b c d
        · have s1 := Apply_ok n k m D a b c d h (by omega) hM
          have s2 := rApply_ok n k m D a b c d h (by omega) hM
          have s3 := SameInts_sp (vS n D (k - 2) m a b c d) ((k - 2 + 1) * (pts n).length) (by omega) (fun i _ => Nat.le_trans (vS_ln h hM (by omega) i) (by omega))
          refine fn_sp (C := CX) [] [] tysX_ok mixed Tryd.func7 rfl (by kernel_rfl) Tryd.ntmps7 rfl rfl ?_
          repeat' ((conv => whnf); first | refine Ob.g ?_ | refine WrOb.g ?_ | refine WrOb.u32 ?_ | refine WrOb.u64 ?_ | refine Cases.y ?_ | refine Cases.n ?_ | refine Idx.g rfl ?_ | refine Idx.z rfl ?_ | refine DrawOb.start ?_ | refine TryF.f ?_ | refine TryF.next rfl ?_ | refine TryF.other ?_ | refine TryA.g ?_ | refine TryA.next rfl ?_ | refine TryA.other ?_ | refine TryS.g ?_ | refine TryS.next rfl ?_ | refine TryS.other ?_ | refine TryG.g ?_ | refine TryG.next rfl ?_ | refine TryG.other ?_ | refine TryT.g ?_ | refine Sp.g (sa) ?_ | refine Sp.g (sl) ?_ | refine Sp.g (s1) ?_ | refine Sp.g (s2) ?_ | refine Sp.g (s3) ?_)
          refine ⟨⟨_, _, rfl, rfl, ?_⟩⟩
          exact AvLe.refl _
        · have s1 := Apply_out n k D m a b c d h (fun h => hM h.2)
          have s2 := rApply_out2 n k m D a b c d h (by omega) hM
          refine fn_sp (C := CX) [] [] tysX_ok mixed Tryd.func7 rfl (by kernel_rfl) Tryd.ntmps7 rfl rfl ?_
          repeat' ((conv => whnf); first | refine Ob.g ?_ | refine WrOb.g ?_ | refine WrOb.u32 ?_ | refine WrOb.u64 ?_ | refine Cases.y ?_ | refine Cases.n ?_ | refine Idx.g rfl ?_ | refine Idx.z rfl ?_ | refine DrawOb.start ?_ | refine TryF.f ?_ | refine TryF.next rfl ?_ | refine TryF.other ?_ | refine TryA.g ?_ | refine TryA.next rfl ?_ | refine TryA.other ?_ | refine TryS.g ?_ | refine TryS.next rfl ?_ | refine TryS.other ?_ | refine TryG.g ?_ | refine TryG.next rfl ?_ | refine TryG.other ?_ | refine TryT.g ?_ | refine Sp.g (sa) ?_ | refine Sp.g (sl) ?_ | refine Sp.g (s1) ?_ | refine Sp.g (s2) ?_ | refine Sp.call (s0) (same_nil) rfl (AvLe.refl _) ?_)
          refine ⟨⟨_, _, rfl, rfl, ?_⟩⟩
          exact AvLe.refl _
      · have s1 := Apply_out n k D r a b c d h (fun h => hr h.1)
        have s2 := rApply_out1 n k D r a b c d h hr
        refine fn_sp (C := CX) [] [] tysX_ok mixed Tryd.func7 rfl (by kernel_rfl) Tryd.ntmps7 rfl rfl ?_
        repeat' ((conv => whnf); first | refine Ob.g ?_ | refine WrOb.g ?_ | refine WrOb.u32 ?_ | refine WrOb.u64 ?_ | refine Cases.y ?_ | refine Cases.n ?_ | refine Idx.g rfl ?_ | refine Idx.z rfl ?_ | refine DrawOb.start ?_ | refine TryF.f ?_ | refine TryF.next rfl ?_ | refine TryF.other ?_ | refine TryA.g ?_ | refine TryA.next rfl ?_ | refine TryA.other ?_ | refine TryS.g ?_ | refine TryS.next rfl ?_ | refine TryS.other ?_ | refine TryG.g ?_ | refine TryG.next rfl ?_ | refine TryG.other ?_ | refine TryT.g ?_ | refine Sp.g (sa) ?_ | refine Sp.g (sl) ?_ | refine Sp.g (s1) ?_ | refine Sp.g (s2) ?_ | refine Sp.call (s0) (same_nil) rfl (AvLe.refl _) ?_)
        refine ⟨⟨_, _, rfl, rfl, ?_⟩⟩
        exact AvLe.refl _
  · have sl := Large_bad L K D hd
    have s1 := Apply_bad L K D r a b c d hd
    have s2 := rApply_bad L K D r a b c d hd
    generalize dchk L K D = e at *
    refine fn_sp (C := CX) [] [] tysX_ok mixed Tryd.func7 rfl (by kernel_rfl) Tryd.ntmps7 rfl rfl ?_
    repeat' ((conv => whnf); first | refine Ob.g ?_ | refine WrOb.g ?_ | refine WrOb.u32 ?_ | refine WrOb.u64 ?_ | refine Cases.y ?_ | refine Cases.n ?_ | refine Idx.g rfl ?_ | refine Idx.z rfl ?_ | refine DrawOb.start ?_ | refine TryF.f ?_ | refine TryF.next rfl ?_ | refine TryF.other ?_ | refine TryA.g ?_ | refine TryA.next rfl ?_ | refine TryA.other ?_ | refine TryS.g ?_ | refine TryS.next rfl ?_ | refine TryS.other ?_ | refine TryG.g ?_ | refine TryG.next rfl ?_ | refine TryG.other ?_ | refine TryT.g ?_ | refine Sp.g (sa) ?_ | refine Sp.g (sl) ?_ | refine Sp.g (s1) ?_ | refine Sp.g (s2) ?_ | refine Sp.call (s0) (same_nil) rfl (AvLe.refl _) ?_)
    refine ⟨⟨_, _, rfl, rfl, ?_⟩⟩
    exact AvLe.bool (decide_eq_true rfl)
theorem Star_out' (n k : Nat) (D r : Int) (h : DOk n k D) (hr : ¬ (0 ≤ r ∧ r < ((k - 2 + 1) * (pts n).length : Nat))) : Sp CX 23 [specA n k D, int .i64 r] (.tup [.c (ix 0), .c (ix 0), .c (ix 2)]) := Star_out n k D r h hr
set_option maxHeartbeats 4000000 in
theorem law_stars (L K D r : Int) : Sp CX 6 [specA L K D, int .i64 r] (bool true) := by
  have sa := awake40_sp
  by_cases hd : dchk L K D = 0
  · obtain ⟨n, k, rfl, rfl, h⟩ := dchk_out hd
    have sl := Large_ok n k D h
    by_cases hc : 72 < (k - 2 + 1) * (pts n).length
    · rw [decide_eq_true hc] at sl
      refine fn_sp (C := CX) [] [] tysX_ok mixed Tryd.func6 rfl (by kernel_rfl) Tryd.ntmps6 rfl rfl ?_
      repeat' ((conv => whnf); first | refine Ob.g ?_ | refine WrOb.g ?_ | refine WrOb.u32 ?_ | refine WrOb.u64 ?_ | refine Cases.y ?_ | refine Cases.n ?_ | refine Idx.g rfl ?_ | refine Idx.z rfl ?_ | refine DrawOb.start ?_ | refine TryF.f ?_ | refine TryF.next rfl ?_ | refine TryF.other ?_ | refine TryA.g ?_ | refine TryA.next rfl ?_ | refine TryA.other ?_ | refine TryS.g ?_ | refine TryS.next rfl ?_ | refine TryS.other ?_ | refine TryG.g ?_ | refine TryG.next rfl ?_ | refine TryG.other ?_ | refine TryT.g ?_ | refine Sp.g (sa) ?_ | refine Sp.g (sl) ?_)
      refine ⟨⟨_, _, rfl, rfl, ?_⟩⟩
      exact AvLe.refl _
    · rw [decide_eq_false hc] at sl
      by_cases hr : 0 ≤ r ∧ r < ((k - 2 + 1) * (pts n).length : Nat)
      · obtain ⟨m, rfl⟩ : ∃ m : Nat, r = m := ⟨r.toNat, by omega⟩
        have S : Sp40 n D := ⟨h.n0, h.dz, h.d4, h.dvd⟩
        have hm : m < (k - 2 + 1) * (pts n).length := by omega
        have s1 := Star_ok n k m D h hm
        have s2 := rStar_ok n k m D h hm
        have s3 := Star_ok n k (stI n m) D h (stI_lt h.n0 hm)
        obtain ⟨e1, e2⟩ := star_star S hm
        rw [e1] at s3
        rw [Int.mul_comm] at e2
        have hb : (-1 ≤ stS n D m ∧ stS n D m ≤ 1) ∧ (-1 ≤ stS n D (stI n m) ∧ stS n D (stI n m) ≤ 1) := by
          rcases unit_prod e2 with ⟨e, f⟩ | ⟨e, f⟩ <;> omega
        generalize stS n D (stI n m) = t at *
        generalize stS n D m = t' at *
        generalize stI n m = m' at *
        clear e1 hm hr
        refine fn_sp (C := CX) [] [] tysX_ok mixed Tryd.func6 rfl (by kernel_rfl) Tryd.ntmps6 rfl rfl ?_
        repeat' ((conv => whnf); first | refine Ob.g ?_ | refine WrOb.g ?_ | refine WrOb.u32 ?_ | refine WrOb.u64 ?_ | refine Cases.y ?_ | refine Cases.n ?_ | refine Idx.g rfl ?_ | refine Idx.z rfl ?_ | refine DrawOb.start ?_ | refine TryF.f ?_ | refine TryF.next rfl ?_ | refine TryF.other ?_ | refine TryA.g ?_ | refine TryA.next rfl ?_ | refine TryA.other ?_ | refine TryS.g ?_ | refine TryS.next rfl ?_ | refine TryS.other ?_ | refine TryG.g ?_ | refine TryG.next rfl ?_ | refine TryG.other ?_ | refine TryT.g ?_ | refine Sp.g (sa) ?_ | refine Sp.g (sl) ?_ | refine Sp.g (s1) ?_ | refine Sp.g (s2) ?_ | refine Sp.g (s3) ?_)
        refine ⟨⟨_, _, rfl, rfl, ?_⟩⟩
        exact AvLe.bool (decide_eq_true e2)
      · have s1 := Star_out' n k D r h hr
        have s2 := rStar_out n k D r h hr
        refine fn_sp (C := CX) [] [] tysX_ok mixed Tryd.func6 rfl (by kernel_rfl) Tryd.ntmps6 rfl rfl ?_
        repeat' ((conv => whnf); first | refine Ob.g ?_ | refine WrOb.g ?_ | refine WrOb.u32 ?_ | refine WrOb.u64 ?_ | refine Cases.y ?_ | refine Cases.n ?_ | refine Idx.g rfl ?_ | refine Idx.z rfl ?_ | refine DrawOb.start ?_ | refine TryF.f ?_ | refine TryF.next rfl ?_ | refine TryF.other ?_ | refine TryA.g ?_ | refine TryA.next rfl ?_ | refine TryA.other ?_ | refine TryS.g ?_ | refine TryS.next rfl ?_ | refine TryS.other ?_ | refine TryG.g ?_ | refine TryG.next rfl ?_ | refine TryG.other ?_ | refine TryT.g ?_ | refine Sp.g (sa) ?_ | refine Sp.g (sl) ?_ | refine Sp.g (s1) ?_ | refine Sp.g (s2) ?_)
        refine ⟨⟨_, _, rfl, rfl, ?_⟩⟩
        exact AvLe.refl _
  · have sl := Large_bad L K D hd
    have s1 := Star_bad L K D r hd
    have s2 := rStar_bad L K D r hd
    generalize dchk L K D = e at *
    refine fn_sp (C := CX) [] [] tysX_ok mixed Tryd.func6 rfl (by kernel_rfl) Tryd.ntmps6 rfl rfl ?_
    repeat' ((conv => whnf); first | refine Ob.g ?_ | refine WrOb.g ?_ | refine WrOb.u32 ?_ | refine WrOb.u64 ?_ | refine Cases.y ?_ | refine Cases.n ?_ | refine Idx.g rfl ?_ | refine Idx.z rfl ?_ | refine DrawOb.start ?_ | refine TryF.f ?_ | refine TryF.next rfl ?_ | refine TryF.other ?_ | refine TryA.g ?_ | refine TryA.next rfl ?_ | refine TryA.other ?_ | refine TryS.g ?_ | refine TryS.next rfl ?_ | refine TryS.other ?_ | refine TryG.g ?_ | refine TryG.next rfl ?_ | refine TryG.other ?_ | refine TryT.g ?_ | refine Sp.g (sa) ?_ | refine Sp.g (sl) ?_ | refine Sp.g (s1) ?_ | refine Sp.g (s2) ?_)
    refine ⟨⟨_, _, rfl, rfl, ?_⟩⟩
    exact AvLe.refl _
end Go.Proofs.YtedfcemebdlgfaaDoor

/- The statements about Manin symbols, walked: Acts, Turns, Mirrors, Relates, Scales. -/
namespace Go.Proofs.YtedfcemebdlgfaaDoor
open Go Go.RowKit Go.VG HP
theorem p60 {x y : Int} (h1 : -60 ≤ x ∧ x ≤ 60) (h2 : -60 ≤ y ∧ y ≤ 60) : -3600 ≤ x * y ∧ x * y ≤ 3600 := by
  have h : (x * y).natAbs ≤ 60 * 60 := by rw [Int.natAbs_mul]; exact Nat.mul_le_mul (by omega) (by omega)
  omega
theorem MOk_of {a b c d : Int} (h : WOk a b c d) : MOk a b c d := by
  obtain ⟨h1, h2, h3, h4⟩ := h
  exact ⟨by omega, by omega, by omega, by omega⟩
def two8 (a b c d e f g h : Int) : AV := .v (.agg [ix a, ix b, ix c, ix d, ix e, ix f, ix g, ix h])
set_option maxHeartbeats 16000000 in
set_option maxRecDepth 20000 in
theorem law_acts (L K D r a b c d e f g h : Int) : Sp CX 8 [specA L K D, int .i64 r, two8 a b c d e f g h] (bool true) := by
  have sa := awake40_sp
  have w1 := within40_sp a b c d
  have w2 := within40_sp e f g h
  by_cases hd : dchk L K D = 0
  · obtain ⟨n, k, rfl, rfl, ok⟩ := dchk_out hd
    have sl := Large_ok n k D ok
    by_cases hc : 72 < (k - 2 + 1) * (pts n).length
    · rw [decide_eq_true hc] at sl
      refine fn_sp (C := CX) [] [] tysX_ok mixed Tryd.func8 rfl (by kernel_rfl) Tryd.ntmps8 rfl rfl ?_
      repeat' ((conv => whnf); first | (refine Idx.mk ⟨1, rfl, by decide, ?_⟩) | (refine Idx.mk ⟨0, rfl, by decide, ?_⟩) | refine Ob.g ?_ | refine WrOb.g ?_ | refine WrOb.u32 ?_ | refine WrOb.u64 ?_ | refine Cases.y ?_ | refine Cases.n ?_ | refine Idx.g rfl ?_ | refine Idx.z rfl ?_ | refine DrawOb.start ?_ | refine TryF.f ?_ | refine TryF.next rfl ?_ | refine TryF.other ?_ | refine TryA.g ?_ | refine TryA.next rfl ?_ | refine TryA.other ?_ | refine TryS.g ?_ | refine TryS.next rfl ?_ | refine TryS.other ?_ | refine TryG.g ?_ | refine TryG.next rfl ?_ | refine TryG.other ?_ | refine TryT.g ?_ | refine Sp.g (sa) ?_ | refine Sp.g (sl) ?_)
      refine ⟨⟨_, _, rfl, rfl, ?_⟩⟩
      exact AvLe.refl _
    · rw [decide_eq_false hc] at sl
      by_cases hw1 : WOk a b c d
      · rw [decide_eq_true hw1] at w1
        by_cases hw2 : WOk e f g h
        · rw [decide_eq_true hw2] at w2
          by_cases hr : 0 ≤ r ∧ r < ((k - 2 + 1) * (pts n).length : Nat)
          · obtain ⟨m, rfl⟩ : ∃ m : Nat, r = m := ⟨r.toNat, by omega⟩
            have hm : m < (k - 2 + 1) * (pts n).length := by omega
            have S : Sp40 n D := ⟨ok.n0, ok.dz, ok.d4, ok.dvd⟩
            obtain ⟨wa, wb, wc, wd⟩ := hw1
            obtain ⟨we, wf, wg, wh⟩ := hw2
            have q1 := p60 wa we
            have q2 := p60 wb wg
            have q3 := p60 wa wf
            have q4 := p60 wb wh
            have q5 := p60 wc we
            have q6 := p60 wd wg
            have q7 := p60 wc wf
            have q8 := p60 wd wh
            have hM1 : MOk a b c d := MOk_of ⟨wa, wb, wc, wd⟩
            have hM2 : MOk e f g h := MOk_of ⟨we, wf, wg, wh⟩
            have hM3 : MOk (a * e + b * g) (a * f + b * h) (c * e + d * g) (c * f + d * h) := ⟨by omega, by omega, by omega, by omega⟩
            have s1 := Apply_ok n k m D a b c d ok hm hM1
            have s2 := after_sp n k _ D ok rfl (by omega) (vS n D (k - 2) m a b c d) (fun q => vS_bd ok hM1 hm q) e f g h hM2
            have s3 := Apply_ok n k m D _ _ _ _ ok hm hM3
            have s4 := SameInts_sp (vS n D (k - 2) m (a * e + b * g) (a * f + b * h) (c * e + d * g) (c * f + d * h)) ((k - 2 + 1) * (pts n).length) (by omega) (fun i _ => Nat.le_trans (vS_ln ok hM3 hm i) (by omega))
            have hacts := fun q => acts S (m := q) hm a b c d e f g h
            clear wa wb wc wd we wf wg wh hM1 hM2 hM3
            refine fn_sp (C := CX) [] [] tysX_ok mixed Tryd.func8 rfl (by kernel_rfl) Tryd.ntmps8 rfl rfl ?_
            repeat' ((conv => whnf); first | (refine Idx.mk ⟨1, rfl, by decide, ?_⟩) | (refine Idx.mk ⟨0, rfl, by decide, ?_⟩) | refine Ob.g ?_ | refine WrOb.g ?_ | refine WrOb.u32 ?_ | refine WrOb.u64 ?_ | refine Cases.y ?_ | refine Cases.n ?_ | refine Idx.g rfl ?_ | refine Idx.z rfl ?_ | refine DrawOb.start ?_ | refine TryF.f ?_ | refine TryF.next rfl ?_ | refine TryF.other ?_ | refine TryA.g ?_ | refine TryA.next rfl ?_ | refine TryA.other ?_ | refine TryS.g ?_ | refine TryS.next rfl ?_ | refine TryS.other ?_ | refine TryG.g ?_ | refine TryG.next rfl ?_ | refine TryG.other ?_ | refine TryT.g ?_ | refine Sp.g (sa) ?_ | refine Sp.g (sl) ?_ | refine Sp.g (w1) ?_ | refine Sp.g (w2) ?_ | refine Sp.g (s1) ?_ | refine Sp.g (s2) ?_ | refine Sp.g (s3) ?_ | refine Sp.call (s4) (.cons (.leaf (.sl fun q j _ _ => .eq (congrArg (fun z => zL z j) (hacts q)))) (.cons (.refl _) .nil)) rfl (AvLe.refl _) ?_)
            refine ⟨⟨_, _, rfl, rfl, ?_⟩⟩
            exact AvLe.refl _
          · have s1 := Apply_out n k D r a b c d ok (fun h => hr h.1)
            refine fn_sp (C := CX) [] [] tysX_ok mixed Tryd.func8 rfl (by kernel_rfl) Tryd.ntmps8 rfl rfl ?_
            repeat' ((conv => whnf); first | (refine Idx.mk ⟨1, rfl, by decide, ?_⟩) | (refine Idx.mk ⟨0, rfl, by decide, ?_⟩) | refine Ob.g ?_ | refine WrOb.g ?_ | refine WrOb.u32 ?_ | refine WrOb.u64 ?_ | refine Cases.y ?_ | refine Cases.n ?_ | refine Idx.g rfl ?_ | refine Idx.z rfl ?_ | refine DrawOb.start ?_ | refine TryF.f ?_ | refine TryF.next rfl ?_ | refine TryF.other ?_ | refine TryA.g ?_ | refine TryA.next rfl ?_ | refine TryA.other ?_ | refine TryS.g ?_ | refine TryS.next rfl ?_ | refine TryS.other ?_ | refine TryG.g ?_ | refine TryG.next rfl ?_ | refine TryG.other ?_ | refine TryT.g ?_ | refine Sp.g (sa) ?_ | refine Sp.g (sl) ?_ | refine Sp.g (w1) ?_ | refine Sp.g (w2) ?_ | refine Sp.g (s1) ?_)
            refine ⟨⟨_, _, rfl, rfl, ?_⟩⟩
            exact AvLe.refl _
        · rw [decide_eq_false hw2] at w2
          refine fn_sp (C := CX) [] [] tysX_ok mixed Tryd.func8 rfl (by kernel_rfl) Tryd.ntmps8 rfl rfl ?_
          repeat' ((conv => whnf); first | (refine Idx.mk ⟨1, rfl, by decide, ?_⟩) | (refine Idx.mk ⟨0, rfl, by decide, ?_⟩) | refine Ob.g ?_ | refine WrOb.g ?_ | refine WrOb.u32 ?_ | refine WrOb.u64 ?_ | refine Cases.y ?_ | refine Cases.n ?_ | refine Idx.g rfl ?_ | refine Idx.z rfl ?_ | refine DrawOb.start ?_ | refine TryF.f ?_ | refine TryF.next rfl ?_ | refine TryF.other ?_ | refine TryA.g ?_ | refine TryA.next rfl ?_ | refine TryA.other ?_ | refine TryS.g ?_ | refine TryS.next rfl ?_ | refine TryS.other ?_ | refine TryG.g ?_ | refine TryG.next rfl ?_ | refine TryG.other ?_ | refine TryT.g ?_ | refine Sp.g (sa) ?_ | refine Sp.g (sl) ?_ | refine Sp.g (w1) ?_ | refine Sp.g (w2) ?_)
          refine ⟨⟨_, _, rfl, rfl, ?_⟩⟩
          exact AvLe.refl _
      · rw [decide_eq_false hw1] at w1
        refine fn_sp (C := CX) [] [] tysX_ok mixed Tryd.func8 rfl (by kernel_rfl) Tryd.ntmps8 rfl rfl ?_
        repeat' ((conv => whnf); first | (refine Idx.mk ⟨1, rfl, by decide, ?_⟩) | (refine Idx.mk ⟨0, rfl, by decide, ?_⟩) | refine Ob.g ?_ | refine WrOb.g ?_ | refine WrOb.u32 ?_ | refine WrOb.u64 ?_ | refine Cases.y ?_ | refine Cases.n ?_ | refine Idx.g rfl ?_ | refine Idx.z rfl ?_ | refine DrawOb.start ?_ | refine TryF.f ?_ | refine TryF.next rfl ?_ | refine TryF.other ?_ | refine TryA.g ?_ | refine TryA.next rfl ?_ | refine TryA.other ?_ | refine TryS.g ?_ | refine TryS.next rfl ?_ | refine TryS.other ?_ | refine TryG.g ?_ | refine TryG.next rfl ?_ | refine TryG.other ?_ | refine TryT.g ?_ | refine Sp.g (sa) ?_ | refine Sp.g (sl) ?_ | refine Sp.g (w1) ?_)
        refine ⟨⟨_, _, rfl, rfl, ?_⟩⟩
        exact AvLe.refl _
  · have sl := Large_bad L K D hd
    have s1 := Apply_bad L K D r a b c d hd
    by_cases hw1 : WOk a b c d
    · rw [decide_eq_true hw1] at w1
      by_cases hw2 : WOk e f g h
      · rw [decide_eq_true hw2] at w2
        generalize dchk L K D = er at *
        refine fn_sp (C := CX) [] [] tysX_ok mixed Tryd.func8 rfl (by kernel_rfl) Tryd.ntmps8 rfl rfl ?_
        repeat' ((conv => whnf); first | (refine Idx.mk ⟨1, rfl, by decide, ?_⟩) | (refine Idx.mk ⟨0, rfl, by decide, ?_⟩) | refine Ob.g ?_ | refine WrOb.g ?_ | refine WrOb.u32 ?_ | refine WrOb.u64 ?_ | refine Cases.y ?_ | refine Cases.n ?_ | refine Idx.g rfl ?_ | refine Idx.z rfl ?_ | refine DrawOb.start ?_ | refine TryF.f ?_ | refine TryF.next rfl ?_ | refine TryF.other ?_ | refine TryA.g ?_ | refine TryA.next rfl ?_ | refine TryA.other ?_ | refine TryS.g ?_ | refine TryS.next rfl ?_ | refine TryS.other ?_ | refine TryG.g ?_ | refine TryG.next rfl ?_ | refine TryG.other ?_ | refine TryT.g ?_ | refine Sp.g (sa) ?_ | refine Sp.g (sl) ?_ | refine Sp.g (w1) ?_ | refine Sp.g (w2) ?_ | refine Sp.g (s1) ?_)
        refine ⟨⟨_, _, rfl, rfl, ?_⟩⟩
        exact AvLe.refl _
      · rw [decide_eq_false hw2] at w2
        refine fn_sp (C := CX) [] [] tysX_ok mixed Tryd.func8 rfl (by kernel_rfl) Tryd.ntmps8 rfl rfl ?_
        repeat' ((conv => whnf); first | (refine Idx.mk ⟨1, rfl, by decide, ?_⟩) | (refine Idx.mk ⟨0, rfl, by decide, ?_⟩) | refine Ob.g ?_ | refine WrOb.g ?_ | refine WrOb.u32 ?_ | refine WrOb.u64 ?_ | refine Cases.y ?_ | refine Cases.n ?_ | refine Idx.g rfl ?_ | refine Idx.z rfl ?_ | refine DrawOb.start ?_ | refine TryF.f ?_ | refine TryF.next rfl ?_ | refine TryF.other ?_ | refine TryA.g ?_ | refine TryA.next rfl ?_ | refine TryA.other ?_ | refine TryS.g ?_ | refine TryS.next rfl ?_ | refine TryS.other ?_ | refine TryG.g ?_ | refine TryG.next rfl ?_ | refine TryG.other ?_ | refine TryT.g ?_ | refine Sp.g (sa) ?_ | refine Sp.g (sl) ?_ | refine Sp.g (w1) ?_ | refine Sp.g (w2) ?_)
        refine ⟨⟨_, _, rfl, rfl, ?_⟩⟩
        exact AvLe.refl _
    · rw [decide_eq_false hw1] at w1
      refine fn_sp (C := CX) [] [] tysX_ok mixed Tryd.func8 rfl (by kernel_rfl) Tryd.ntmps8 rfl rfl ?_
      repeat' ((conv => whnf); first | (refine Idx.mk ⟨1, rfl, by decide, ?_⟩) | (refine Idx.mk ⟨0, rfl, by decide, ?_⟩) | refine Ob.g ?_ | refine WrOb.g ?_ | refine WrOb.u32 ?_ | refine WrOb.u64 ?_ | refine Cases.y ?_ | refine Cases.n ?_ | refine Idx.g rfl ?_ | refine Idx.z rfl ?_ | refine DrawOb.start ?_ | refine TryF.f ?_ | refine TryF.next rfl ?_ | refine TryF.other ?_ | refine TryA.g ?_ | refine TryA.next rfl ?_ | refine TryA.other ?_ | refine TryS.g ?_ | refine TryS.next rfl ?_ | refine TryS.other ?_ | refine TryG.g ?_ | refine TryG.next rfl ?_ | refine TryG.other ?_ | refine TryT.g ?_ | refine Sp.g (sa) ?_ | refine Sp.g (sl) ?_ | refine Sp.g (w1) ?_)
      refine ⟨⟨_, _, rfl, rfl, ?_⟩⟩
      exact AvLe.refl _
set_option maxHeartbeats 16000000 in
set_option maxRecDepth 20000 in
theorem law_turns (L K D r : Int) : Sp CX 9 [specA L K D, int .i64 r] (bool true) := by
  have sa := awake40_sp
  have g1 := S40_sp
  have g2 := R40_sp
  have g3 := R240_sp
  by_cases hd : dchk L K D = 0
  · obtain ⟨n, k, rfl, rfl, ok⟩ := dchk_out hd
    have sl := Large_ok n k D ok
    by_cases hc : 72 < (k - 2 + 1) * (pts n).length
    · rw [decide_eq_true hc] at sl
      refine fn_sp (C := CX) [] [] tysX_ok mixed Tryd.func9 rfl (by kernel_rfl) Tryd.ntmps9 rfl rfl ?_
      repeat' ((conv => whnf); first | refine Ob.g ?_ | refine WrOb.g ?_ | refine WrOb.u32 ?_ | refine WrOb.u64 ?_ | refine Cases.y ?_ | refine Cases.n ?_ | refine Idx.g rfl ?_ | refine Idx.z rfl ?_ | refine DrawOb.start ?_ | refine TryF.f ?_ | refine TryF.next rfl ?_ | refine TryF.other ?_ | refine TryA.g ?_ | refine TryA.next rfl ?_ | refine TryA.other ?_ | refine TryS.g ?_ | refine TryS.next rfl ?_ | refine TryS.other ?_ | refine TryG.g ?_ | refine TryG.next rfl ?_ | refine TryG.other ?_ | refine TryT.g ?_ | refine Sp.g (sa) ?_ | refine Sp.g (sl) ?_)
      refine ⟨⟨_, _, rfl, rfl, ?_⟩⟩
      exact AvLe.refl _
    · rw [decide_eq_false hc] at sl
      by_cases hr : 0 ≤ r ∧ r < ((k - 2 + 1) * (pts n).length : Nat)
      · obtain ⟨m, rfl⟩ : ∃ m : Nat, r = m := ⟨r.toNat, by omega⟩
        have hm : m < (k - 2 + 1) * (pts n).length := by omega
        have S : Sp40 n D := ⟨ok.n0, ok.dz, ok.d4, ok.dvd⟩
        have hS : MOk 0 (-1) 1 0 := by decide
        have hR : MOk 0 (-1) 1 (-1) := by decide
        have hR2 : MOk (-1) 1 (-1) 0 := by decide
        have s1 := Apply_ok n k m D 0 (-1) 1 0 ok hm hS
        have s2 := Apply_ok n k m D (-1) 1 (-1) 0 ok hm hR2
        have s3 := after_sp n k _ D ok rfl (by omega) (vS n D (k - 2) m 0 (-1) 1 0) (fun q => vS_bd ok hS hm q) 0 (-1) 1 0 hS
        have s4 := after_sp n k _ D ok rfl (by omega) (vS n D (k - 2) m (-1) 1 (-1) 0) (fun q => vS_bd ok hR2 hm q) 0 (-1) 1 (-1) hR
        have e1 : ∀ q, sumI (fun x => vS n D (k - 2) m 0 (-1) 1 0 x * vS n D (k - 2) x 0 (-1) 1 0 q) ((k - 2 + 1) * (pts n).length) = uZ m q := fun q => by
          rw [acts S hm]
          exact vS_neg S ok.d0 ok.d1 (by have := ok.par; have := ok.k0; omega) hm
        have e2 : ∀ q, sumI (fun x => vS n D (k - 2) m (-1) 1 (-1) 0 x * vS n D (k - 2) x 0 (-1) 1 (-1) q) ((k - 2 + 1) * (pts n).length) = uZ m q := fun q => by
          rw [acts S hm]
          exact vS_one S.n0 hm
        have s5 := Unit_sp ((k - 2 + 1) * (pts n).length) m (by omega) hm
        have s6 := SameInts_sp (uZ m) ((k - 2 + 1) * (pts n).length) (by omega) (fun i _ => Nat.le_trans (uZ_ln m i) (by omega))
        generalize (k - 2 + 1) * (pts n).length = cnt at *
        refine fn_sp (C := CX) [] [] tysX_ok mixed Tryd.func9 rfl (by kernel_rfl) Tryd.ntmps9 rfl rfl ?_
        repeat' ((conv => whnf); first | refine Ob.g ?_ | refine WrOb.g ?_ | refine WrOb.u32 ?_ | refine WrOb.u64 ?_ | refine Cases.y ?_ | refine Cases.n ?_ | refine Idx.g rfl ?_ | refine Idx.z rfl ?_ | refine DrawOb.start ?_ | refine TryF.f ?_ | refine TryF.next rfl ?_ | refine TryF.other ?_ | refine TryA.g ?_ | refine TryA.next rfl ?_ | refine TryA.other ?_ | refine TryS.g ?_ | refine TryS.next rfl ?_ | refine TryS.other ?_ | refine TryG.g ?_ | refine TryG.next rfl ?_ | refine TryG.other ?_ | refine TryT.g ?_ | refine Sp.g (sa) ?_ | refine Sp.g (sl) ?_ | refine Sp.g (g1) ?_ | refine Sp.g (g2) ?_ | refine Sp.g (g3) ?_ | refine Sp.g (s1) ?_ | refine Sp.g (s2) ?_ | refine Sp.g (s3) ?_ | refine Sp.g (s4) ?_ | refine Sp.g (s5) ?_ | refine Sp.call (s6) (.cons (.leaf (.sl fun q j _ _ => .eq (congrArg (fun z => zL z j) (e1 q)))) (.cons (.refl _) .nil)) rfl (AvLe.refl _) ?_ | refine Sp.call (s6) (.cons (.leaf (.sl fun q j _ _ => .eq (congrArg (fun z => zL z j) (e2 q)))) (.cons (.refl _) .nil)) rfl (AvLe.refl _) ?_)
        refine ⟨⟨_, _, rfl, rfl, ?_⟩⟩
        exact AvLe.refl _
      · have s1 := Apply_out n k D r 0 (-1) 1 0 ok (fun h => hr h.1)
        refine fn_sp (C := CX) [] [] tysX_ok mixed Tryd.func9 rfl (by kernel_rfl) Tryd.ntmps9 rfl rfl ?_
        repeat' ((conv => whnf); first | refine Ob.g ?_ | refine WrOb.g ?_ | refine WrOb.u32 ?_ | refine WrOb.u64 ?_ | refine Cases.y ?_ | refine Cases.n ?_ | refine Idx.g rfl ?_ | refine Idx.z rfl ?_ | refine DrawOb.start ?_ | refine TryF.f ?_ | refine TryF.next rfl ?_ | refine TryF.other ?_ | refine TryA.g ?_ | refine TryA.next rfl ?_ | refine TryA.other ?_ | refine TryS.g ?_ | refine TryS.next rfl ?_ | refine TryS.other ?_ | refine TryG.g ?_ | refine TryG.next rfl ?_ | refine TryG.other ?_ | refine TryT.g ?_ | refine Sp.g (sa) ?_ | refine Sp.g (sl) ?_ | refine Sp.g (g1) ?_ | refine Sp.g (s1) ?_)
        refine ⟨⟨_, _, rfl, rfl, ?_⟩⟩
        exact AvLe.refl _
  · have sl := Large_bad L K D hd
    have s1 := Apply_bad L K D r 0 (-1) 1 0 hd
    generalize dchk L K D = er at *
    refine fn_sp (C := CX) [] [] tysX_ok mixed Tryd.func9 rfl (by kernel_rfl) Tryd.ntmps9 rfl rfl ?_
    repeat' ((conv => whnf); first | refine Ob.g ?_ | refine WrOb.g ?_ | refine WrOb.u32 ?_ | refine WrOb.u64 ?_ | refine Cases.y ?_ | refine Cases.n ?_ | refine Idx.g rfl ?_ | refine Idx.z rfl ?_ | refine DrawOb.start ?_ | refine TryF.f ?_ | refine TryF.next rfl ?_ | refine TryF.other ?_ | refine TryA.g ?_ | refine TryA.next rfl ?_ | refine TryA.other ?_ | refine TryS.g ?_ | refine TryS.next rfl ?_ | refine TryS.other ?_ | refine TryG.g ?_ | refine TryG.next rfl ?_ | refine TryG.other ?_ | refine TryT.g ?_ | refine Sp.g (sa) ?_ | refine Sp.g (sl) ?_ | refine Sp.g (g1) ?_ | refine Sp.g (s1) ?_)
    refine ⟨⟨_, _, rfl, rfl, ?_⟩⟩
    exact AvLe.refl _
set_option maxHeartbeats 16000000 in
set_option maxRecDepth 20000 in
theorem law_mirrors (L K D r a b c d : Int) : Sp CX 10 [specA L K D, int .i64 r, matA a b c d] (bool true) := by
  have sa := awake40_sp
  by_cases hd : dchk L K D = 0
  · obtain ⟨n, k, rfl, rfl, ok⟩ := dchk_out hd
    have sl := Large_ok n k D ok
    by_cases hc : 72 < (k - 2 + 1) * (pts n).length
    · rw [decide_eq_true hc] at sl
      refine fn_sp (C := CX) [] [] tysX_ok mixed Tryd.func10 rfl (by kernel_rfl) Tryd.ntmps10 rfl rfl ?_
      repeat' ((conv => whnf); first | refine Ob.g ?_ | refine WrOb.g ?_ | refine WrOb.u32 ?_ | refine WrOb.u64 ?_ | refine Cases.y ?_ | refine Cases.n ?_ | refine Idx.g rfl ?_ | refine Idx.z rfl ?_ | refine DrawOb.start ?_ | refine TryF.f ?_ | refine TryF.next rfl ?_ | refine TryF.other ?_ | refine TryA.g ?_ | refine TryA.next rfl ?_ | refine TryA.other ?_ | refine TryS.g ?_ | refine TryS.next rfl ?_ | refine TryS.other ?_ | refine TryG.g ?_ | refine TryG.next rfl ?_ | refine TryG.other ?_ | refine TryT.g ?_ | refine Sp.g (sa) ?_ | refine Sp.g (sl) ?_)
      refine ⟨⟨_, _, rfl, rfl, ?_⟩⟩
      exact AvLe.refl _
    · rw [decide_eq_false hc] at sl
      by_cases hr : (0 ≤ r ∧ r < ((k - 2 + 1) * (pts n).length : Nat)) ∧ MOk a b c d
      · obtain ⟨hr, hM⟩ := hr
        obtain ⟨m, rfl⟩ : ∃ m : Nat, r = m := ⟨r.toNat, by omega⟩
        have hm : m < (k - 2 + 1) * (pts n).length := by omega
        have S : Sp40 n D := ⟨ok.n0, ok.dz, ok.d4, ok.dvd⟩
        have hM' := hM
        obtain ⟨ba, bb, bc, bd⟩ := hM'
        have hM2 : MOk a (-b) (-c) d := ⟨by omega, by omega, by omega, by omega⟩
        have hsm := stI_lt (w := k - 2) (r := m) ok.n0 hm
        have s1 := Apply_ok n k m D a b c d ok hm hM
        have s2 := starred_sp n k _ D ok rfl (by omega) (vS n D (k - 2) m a b c d) (fun q => vS_bd ok hM hm q)
        have s3 := Star_ok n k m D ok hm
        have s4 := Apply_ok n k (stI n m) D a (-b) (-c) d ok hsm hM2
        obtain ⟨e1, e2⟩ := star_star S hm
        have hb : -1 ≤ stS n D m ∧ stS n D m ≤ 1 := by
          rcases unit_prod e2 with ⟨e, f⟩ | ⟨e, f⟩ <;> omega
        have sz := Z_sp (stS n D m) (by omega) (by omega)
        have s0 := (zero40_sp ((k - 2 + 1) * (pts n).length) (by omega)).frz
        have s5 := add40_sp (fun _ => 0) (vS n D (k - 2) (stI n m) a (-b) (-c) d) (stS n D m) ((k - 2 + 1) * (pts n).length) (by omega) (Nat.le_trans (ln_two (by omega)) (by omega)) (fun i _ => by decide) (fun i _ => Nat.le_trans (vS_ln ok hM2 hsm i) (by omega))
        have hmir : ∀ q, q < (k - 2 + 1) * (pts n).length → starZ n D (vS n D (k - 2) m a b c d) q = 0 + stS n D m * vS n D (k - 2) (stI n m) a (-b) (-c) d q := fun q hq => by
          rw [Int.zero_add]
          exact mirror S hm hq a b c d
        have hbd : ∀ q, q < (k - 2 + 1) * (pts n).length → ln (0 + stS n D m * vS n D (k - 2) (stI n m) a (-b) (-c) d q).natAbs ≤ 1000000 := fun q _ => by
          rw [Int.zero_add, Int.natAbs_mul]
          have := ln_mul (stS n D m).natAbs (vS n D (k - 2) (stI n m) a (-b) (-c) d q).natAbs
          have := vS_ln ok hM2 hsm q
          have : ln (stS n D m).natAbs ≤ 2 := ln_two (by omega)
          omega
        have s6 := SameInts_sp _ ((k - 2 + 1) * (pts n).length) (by omega) hbd
        clear hbd e1 e2 ba bd hM hM2 S
        generalize stI n m = m' at *
        generalize stS n D m = t' at *
        refine fn_sp (C := CX) [] [] tysX_ok mixed Tryd.func10 rfl (by kernel_rfl) Tryd.ntmps10 rfl rfl ?_
        repeat' ((conv => whnf); first | refine Ob.g ?_ | refine WrOb.g ?_ | refine WrOb.u32 ?_ | refine WrOb.u64 ?_ | refine Cases.y ?_ | refine Cases.n ?_ | refine Idx.g rfl ?_ | refine Idx.z rfl ?_ | refine DrawOb.start ?_ | refine TryF.f ?_ | refine TryF.next rfl ?_ | refine TryF.other ?_ | refine TryA.g ?_ | refine TryA.next rfl ?_ | refine TryA.other ?_ | refine TryS.g ?_ | refine TryS.next rfl ?_ | refine TryS.other ?_ | refine TryG.g ?_ | refine TryG.next rfl ?_ | refine TryG.other ?_ | refine TryT.g ?_ | refine Sp.g (sa) ?_ | refine Sp.g (sl) ?_ | refine Sp.g (s1) ?_ | refine Sp.g (s2) ?_ | refine Sp.g (s3) ?_ | refine Sp.g (s4) ?_ | refine Sp.g (sz) ?_ | refine Sp.g (s0) ?_ | refine Sp.g (s5) ?_ | refine Sp.call (s6) (.cons (.leaf (.sl fun q j hq _ => .eq (congrArg (fun z => zL z j) (hmir q hq)))) (.cons (.refl _) .nil)) rfl (AvLe.refl _) ?_)
        refine ⟨⟨_, _, rfl, rfl, ?_⟩⟩
        exact AvLe.refl _
      · have s1 := Apply_out n k D r a b c d ok hr
        refine fn_sp (C := CX) [] [] tysX_ok mixed Tryd.func10 rfl (by kernel_rfl) Tryd.ntmps10 rfl rfl ?_
        repeat' ((conv => whnf); first | refine Ob.g ?_ | refine WrOb.g ?_ | refine WrOb.u32 ?_ | refine WrOb.u64 ?_ | refine Cases.y ?_ | refine Cases.n ?_ | refine Idx.g rfl ?_ | refine Idx.z rfl ?_ | refine DrawOb.start ?_ | refine TryF.f ?_ | refine TryF.next rfl ?_ | refine TryF.other ?_ | refine TryA.g ?_ | refine TryA.next rfl ?_ | refine TryA.other ?_ | refine TryS.g ?_ | refine TryS.next rfl ?_ | refine TryS.other ?_ | refine TryG.g ?_ | refine TryG.next rfl ?_ | refine TryG.other ?_ | refine TryT.g ?_ | refine Sp.g (sa) ?_ | refine Sp.g (sl) ?_ | refine Sp.g (s1) ?_)
        refine ⟨⟨_, _, rfl, rfl, ?_⟩⟩
        exact AvLe.refl _
  · have sl := Large_bad L K D hd
    have s1 := Apply_bad L K D r a b c d hd
    generalize dchk L K D = er at *
    refine fn_sp (C := CX) [] [] tysX_ok mixed Tryd.func10 rfl (by kernel_rfl) Tryd.ntmps10 rfl rfl ?_
    repeat' ((conv => whnf); first | refine Ob.g ?_ | refine WrOb.g ?_ | refine WrOb.u32 ?_ | refine WrOb.u64 ?_ | refine Cases.y ?_ | refine Cases.n ?_ | refine Idx.g rfl ?_ | refine Idx.z rfl ?_ | refine DrawOb.start ?_ | refine TryF.f ?_ | refine TryF.next rfl ?_ | refine TryF.other ?_ | refine TryA.g ?_ | refine TryA.next rfl ?_ | refine TryA.other ?_ | refine TryS.g ?_ | refine TryS.next rfl ?_ | refine TryS.other ?_ | refine TryG.g ?_ | refine TryG.next rfl ?_ | refine TryG.other ?_ | refine TryT.g ?_ | refine Sp.g (sa) ?_ | refine Sp.g (sl) ?_ | refine Sp.g (s1) ?_)
    refine ⟨⟨_, _, rfl, rfl, ?_⟩⟩
    exact AvLe.refl _
theorem rel_ln {n k : Nat} {D : Int} (ok : DOk n k D) {cnt : Nat} (ec : cnt = (k - 2 + 1) * (pts n).length) {x : Nat} (hx : x < cnt * (cnt + cnt)) : ln (relZ n D (k - 2) cnt x).natAbs ≤ 1000000 := by
  have h0 : 0 < cnt := Nat.pos_of_ne_zero fun e => by rw [e] at hx; omega
  refine Nat.le_trans (RZ_ln ok (ec ▸ Nat.mod_lt _ h0) _ _ _ ?_) (by omega)
  unfold gN
  split <;> omega
set_option maxHeartbeats 4000000 in
theorem law_relates (L K D : Int) : Sp CX 11 [specA L K D] (bool true) := by
  have sa := awake40_sp
  by_cases hd : dchk L K D = 0
  · obtain ⟨n, k, rfl, rfl, ok⟩ := dchk_out hd
    have sl := Large_ok n k D ok
    by_cases hc : 72 < (k - 2 + 1) * (pts n).length
    · rw [decide_eq_true hc] at sl
      refine fn_sp (C := CX) [] [] tysX_ok mixed Tryd.func11 rfl (by kernel_rfl) Tryd.ntmps11 rfl rfl ?_
      repeat' ((conv => whnf); first | refine Ob.g ?_ | refine WrOb.g ?_ | refine WrOb.u32 ?_ | refine WrOb.u64 ?_ | refine Cases.y ?_ | refine Cases.n ?_ | refine Idx.g rfl ?_ | refine Idx.z rfl ?_ | refine DrawOb.start ?_ | refine TryF.f ?_ | refine TryF.next rfl ?_ | refine TryF.other ?_ | refine TryA.g ?_ | refine TryA.next rfl ?_ | refine TryA.other ?_ | refine TryS.g ?_ | refine TryS.next rfl ?_ | refine TryS.other ?_ | refine TryG.g ?_ | refine TryG.next rfl ?_ | refine TryG.other ?_ | refine TryT.g ?_ | refine Sp.g (sa) ?_ | refine Sp.g (sl) ?_)
      refine ⟨⟨_, _, rfl, rfl, ?_⟩⟩
      exact AvLe.refl _
    · rw [decide_eq_false hc] at sl
      have hcc : (k - 2 + 1) * (pts n).length * ((k - 2 + 1) * (pts n).length + (k - 2 + 1) * (pts n).length) ≤ 72 * 144 := Nat.mul_le_mul (by omega) (by omega)
      have s1 := Relations_ok n k _ D ok rfl (by omega)
      have s2 := rRelations_ok n k _ D ok rfl (by omega)
      have s3 := SameZM_sp (2 * (((k - 2 + 1) * (pts n).length : Nat) : Int)) ((k - 2 + 1) * (pts n).length : Nat) (relZ n D (k - 2) ((k - 2 + 1) * (pts n).length)) _ (by omega) (fun x hx => rel_ln ok rfl hx)
      generalize (k - 2 + 1) * (pts n).length = cnt at *
      unfold zmA at s1 s2 s3
      refine fn_sp (C := CX) [] [] tysX_ok mixed Tryd.func11 rfl (by kernel_rfl) Tryd.ntmps11 rfl rfl ?_
      repeat' ((conv => whnf); first | refine Ob.g ?_ | refine WrOb.g ?_ | refine WrOb.u32 ?_ | refine WrOb.u64 ?_ | refine Cases.y ?_ | refine Cases.n ?_ | refine Idx.g rfl ?_ | refine Idx.z rfl ?_ | refine DrawOb.start ?_ | refine TryF.f ?_ | refine TryF.next rfl ?_ | refine TryF.other ?_ | refine TryA.g ?_ | refine TryA.next rfl ?_ | refine TryA.other ?_ | refine TryS.g ?_ | refine TryS.next rfl ?_ | refine TryS.other ?_ | refine TryG.g ?_ | refine TryG.next rfl ?_ | refine TryG.other ?_ | refine TryT.g ?_ | refine Sp.g (sa) ?_ | refine Sp.g (sl) ?_ | refine Sp.g (s1) ?_ | refine Sp.g (s2) ?_ | refine Sp.g (s3) ?_)
      refine ⟨⟨_, _, rfl, rfl, ?_⟩⟩
      exact AvLe.refl _
  · have sl := Large_bad L K D hd
    have s1 := Relations_bad L K D hd
    have s2 := rRelations_bad L K D hd
    have s3 := SameZM_sp 0 0 (fun _ => 0) 0 (by omega) (fun x hx => by omega)
    generalize dchk L K D = er at *
    refine fn_sp (C := CX) [] [] tysX_ok mixed Tryd.func11 rfl (by kernel_rfl) Tryd.ntmps11 rfl rfl ?_
    repeat' ((conv => whnf); first | refine Ob.g ?_ | refine WrOb.g ?_ | refine WrOb.u32 ?_ | refine WrOb.u64 ?_ | refine Cases.y ?_ | refine Cases.n ?_ | refine Idx.g rfl ?_ | refine Idx.z rfl ?_ | refine DrawOb.start ?_ | refine TryF.f ?_ | refine TryF.next rfl ?_ | refine TryF.other ?_ | refine TryA.g ?_ | refine TryA.next rfl ?_ | refine TryA.other ?_ | refine TryS.g ?_ | refine TryS.next rfl ?_ | refine TryS.other ?_ | refine TryG.g ?_ | refine TryG.next rfl ?_ | refine TryG.other ?_ | refine TryT.g ?_ | refine Sp.g (sa) ?_ | refine Sp.g (sl) ?_ | refine Sp.g (s1) ?_ | refine Sp.g (s2) ?_ | refine Sp.call (s3) (.cons (.agg (.cons (.refl _) (.cons (.refl _) (.cons .nil .nil)))) (.cons (.agg (.cons (.refl _) (.cons (.refl _) (.cons .nil .nil)))) .nil)) rfl (AvLe.refl _) ?_)
    refine ⟨⟨_, _, rfl, rfl, ?_⟩⟩
    exact AvLe.bool (decide_eq_true rfl)
end Go.Proofs.YtedfcemebdlgfaaDoor

/- The statement about scaled pairs, walked. -/
namespace Go.Proofs.YtedfcemebdlgfaaDoor
open Go Go.RowKit Go.VG HP
/-- small arguments -/
def SmallS (u v l : Int) : Prop := (u ≤ 1000 ∧ v ≤ 1000 ∧ l ≤ 1000) ∧ (-1000 ≤ u ∧ -1000 ≤ v ∧ -1000 ≤ l)
theorem sm_max {u v l : Int} (h : u ≤ 1000 ∧ v ≤ 1000 ∧ l ≤ 1000) : ¬ 1000 < (if (if u < v then v else u) < l then l else if u < v then v else u) := by
  split <;> (try split) <;> omega
theorem sm_max' {u v l : Int} (h : ¬ (u ≤ 1000 ∧ v ≤ 1000 ∧ l ≤ 1000)) : 1000 < (if (if u < v then v else u) < l then l else if u < v then v else u) := by
  have h2 : ¬ (if (if u < v then v else u) < l then l else if u < v then v else u) ≤ 1000 := fun e => h (by
    have e := mx_le.1 e
    have f := mx_le.1 e.1
    exact ⟨f.1, f.2, e.2⟩)
  omega
theorem sm_min {u v l : Int} (h : -1000 ≤ u ∧ -1000 ≤ v ∧ -1000 ≤ l) : ¬ (if l < (if v < u then v else u) then l else if v < u then v else u) < -1000 := by
  have := mn_ge.2 ⟨mn_ge.2 ⟨h.1, h.2.1⟩, h.2.2⟩
  omega
theorem sm_min' {u v l : Int} (h : ¬ (-1000 ≤ u ∧ -1000 ≤ v ∧ -1000 ≤ l)) : (if l < (if v < u then v else u) then l else if v < u then v else u) < -1000 := by
  have h2 : ¬ -1000 ≤ (if l < (if v < u then v else u) then l else if v < u then v else u) := fun e => h (by
    have e := mn_ge.1 e
    have f := mn_ge.1 e.1
    exact ⟨f.1, f.2, e.2⟩)
  omega
set_option maxHeartbeats 4000000 in
theorem scales_big (L K D i u v l : Int) (sl : Sp CX 13 [specA L K D] (bool false)) (h : ¬ SmallS u v l) : Sp CX 5 [specA L K D, manA i u v, int .i64 l] (bool true) := by
  have sa := awake40_sp
  by_cases h1 : u ≤ 1000 ∧ v ≤ 1000 ∧ l ≤ 1000
  · have m1 := sm_max h1
    have m2 := sm_min' (u := u) (v := v) (l := l) (fun e => h ⟨h1, e⟩)
    refine fn_sp (C := CX) [] [] tysX_ok mixed Tryd.func5 rfl (by kernel_rfl) Tryd.ntmps5 rfl rfl ?_
    repeat' ((conv => whnf); first | (refine Cases.y ?_ (decide_eq_true m2)) | (refine Cases.n ?_ (decide_eq_false m1)) | refine Ob.g ?_ | refine WrOb.g ?_ | refine WrOb.u32 ?_ | refine WrOb.u64 ?_ | refine Cases.y ?_ | refine Cases.n ?_ | refine Idx.g rfl ?_ | refine Idx.z rfl ?_ | refine DrawOb.start ?_ | refine TryF.f ?_ | refine TryF.next rfl ?_ | refine TryF.other ?_ | refine TryA.g ?_ | refine TryA.next rfl ?_ | refine TryA.other ?_ | refine TryS.g ?_ | refine TryS.next rfl ?_ | refine TryS.other ?_ | refine TryG.g ?_ | refine TryG.next rfl ?_ | refine TryG.other ?_ | refine TryT.g ?_ | refine Sp.g (sa) ?_ | refine Sp.g (sl) ?_)
    refine ⟨⟨_, _, rfl, rfl, ?_⟩⟩
    exact AvLe.refl _
  · have m1 := sm_max' h1
    refine fn_sp (C := CX) [] [] tysX_ok mixed Tryd.func5 rfl (by kernel_rfl) Tryd.ntmps5 rfl rfl ?_
    repeat' ((conv => whnf); first | (refine Cases.y ?_ (decide_eq_true m1)) | refine Ob.g ?_ | refine WrOb.g ?_ | refine WrOb.u32 ?_ | refine WrOb.u64 ?_ | refine Cases.y ?_ | refine Cases.n ?_ | refine Idx.g rfl ?_ | refine Idx.z rfl ?_ | refine DrawOb.start ?_ | refine TryF.f ?_ | refine TryF.next rfl ?_ | refine TryF.other ?_ | refine TryA.g ?_ | refine TryA.next rfl ?_ | refine TryA.other ?_ | refine TryS.g ?_ | refine TryS.next rfl ?_ | refine TryS.other ?_ | refine TryG.g ?_ | refine TryG.next rfl ?_ | refine TryG.other ?_ | refine TryT.g ?_ | refine Sp.g (sa) ?_ | refine Sp.g (sl) ?_)
    refine ⟨⟨_, _, rfl, rfl, ?_⟩⟩
    exact AvLe.refl _
theorem scales_err (L K D i u v l e : Int) (he : e ≠ 0) (sl : Sp CX 13 [specA L K D] (bool false)) (h : SmallS u v l) (sn : Sp CX 14 [specA L K D, manA i u v] (.tup [.c (ix 0), .c (ix 0), .c (ix e)])) : Sp CX 5 [specA L K D, manA i u v, int .i64 l] (bool true) := by
  have sa := awake40_sp
  have m1 := sm_max h.1
  have m2 := sm_min h.2
  refine fn_sp (C := CX) [] [] tysX_ok mixed Tryd.func5 rfl (by kernel_rfl) Tryd.ntmps5 rfl rfl ?_
  repeat' ((conv => whnf); first | (refine Cases.n ?_ (decide_eq_false m2)) | (refine Cases.n ?_ (decide_eq_false m1)) | refine Ob.g ?_ | refine WrOb.g ?_ | refine WrOb.u32 ?_ | refine WrOb.u64 ?_ | refine Cases.y ?_ | refine Cases.n ?_ | refine Idx.g rfl ?_ | refine Idx.z rfl ?_ | refine DrawOb.start ?_ | refine TryF.f ?_ | refine TryF.next rfl ?_ | refine TryF.other ?_ | refine TryA.g ?_ | refine TryA.next rfl ?_ | refine TryA.other ?_ | refine TryS.g ?_ | refine TryS.next rfl ?_ | refine TryS.other ?_ | refine TryG.g ?_ | refine TryG.next rfl ?_ | refine TryG.other ?_ | refine TryT.g ?_ | refine Sp.g (sa) ?_ | refine Sp.g (sl) ?_ | refine Sp.g (sn) ?_)
  refine ⟨⟨_, _, rfl, rfl, ?_⟩⟩
  exact AvLe.refl _
theorem not_cop {n l x : Nat} (hn : 0 < n) (hg : Nat.gcd l n ≠ 1) : copB n (mu n l x) = false := by
  cases h : copB n (mu n l x) with
  | false => rfl
  | true =>
    refine absurd (cop_dvd.1 h (Nat.gcd l n) ?_ ?_ (Nat.gcd_dvd_right l n)) hg
    · rw [mu_div hn]
      exact (Nat.dvd_mod_iff (Nat.gcd_dvd_right l n)).2 (Nat.dvd_trans (Nat.gcd_dvd_left l n) (Nat.dvd_mul_right _ _))
    · rw [mu_mod hn]
      exact (Nat.dvd_mod_iff (Nat.gcd_dvd_right l n)).2 (Nat.dvd_trans (Nat.gcd_dvd_left l n) (Nat.dvd_mul_right _ _))
theorem kro_unit {n k l : Nat} {D : Int} (h : DOk n k D) (hl : UU n l) : kro D l = 1 ∨ kro D l = -1 := by
  have hn : 0 < n := h.n0
  have h1 : (1 : Nat) < n * n ∨ n = 1 := by
    rcases Nat.lt_or_ge 1 n with h2 | h2
    · exact .inl (Nat.lt_of_lt_of_le h2 (Nat.le_mul_of_pos_left n hn))
    · exact .inr (by omega)
  have hp0 : 0 < (pts n).length := by
    have : 0 < n * n := Nat.mul_pos hn hn
    have hx : (if n = 1 then 0 else 1) < n * n := by split <;> omega
    have hc : copB n (if n = 1 then 0 else 1) = true := by
      split
      · next e => subst e; decide
      · next e =>
        rw [cop_iff, Nat.div_eq_of_lt (by omega), Nat.gcd_zero_left, Nat.mod_eq_of_lt (by omega), Nat.gcd_one_left]
    obtain ⟨y, s, _, hy, _⟩ := ex_min hn _ hx hc
    have hyl : y < n * n := by
      obtain ⟨y', s', hy', hz, hu, hm⟩ := ex_min hn _ hx hc
      omega
    exact Nat.lt_of_le_of_lt (Nat.zero_le _) (cntN_lt hyl hy)
  have hp : Pl n (mu n l (pt n 0)) 0 l := ⟨hl, pt n 0, pt_at hp0, rfl⟩
  have := pSg_unit (D := D) hn h.dvd (mu_lt hn l (pt n 0)) (hp.cop hn)
  rwa [pSg_of hn hp] at this
set_option maxHeartbeats 8000000 in
theorem law_scales (L K D i u v l : Int) : Sp CX 5 [specA L K D, manA i u v, int .i64 l] (bool true) := by
  by_cases hd : dchk L K D = 0
  · obtain ⟨n, k, rfl, rfl, h⟩ := dchk_out hd
    have sl := Large_ok n k D h
    by_cases hc : 72 < (k - 2 + 1) * (pts n).length
    · have sa := awake40_sp
      rw [decide_eq_true hc] at sl
      refine fn_sp (C := CX) [] [] tysX_ok mixed Tryd.func5 rfl (by kernel_rfl) Tryd.ntmps5 rfl rfl ?_
      repeat' ((conv => whnf); first | refine Ob.g ?_ | refine WrOb.g ?_ | refine WrOb.u32 ?_ | refine WrOb.u64 ?_ | refine Cases.y ?_ | refine Cases.n ?_ | refine Idx.g rfl ?_ | refine Idx.z rfl ?_ | refine DrawOb.start ?_ | refine TryF.f ?_ | refine TryF.next rfl ?_ | refine TryF.other ?_ | refine TryA.g ?_ | refine TryA.next rfl ?_ | refine TryA.other ?_ | refine TryS.g ?_ | refine TryS.next rfl ?_ | refine TryS.other ?_ | refine TryG.g ?_ | refine TryG.next rfl ?_ | refine TryG.other ?_ | refine TryT.g ?_ | refine Sp.g (sa) ?_ | refine Sp.g (sl) ?_)
      refine ⟨⟨_, _, rfl, rfl, ?_⟩⟩
      exact AvLe.refl _
    · rw [decide_eq_false hc] at sl
      by_cases hs : SmallS u v l
      · by_cases hi : 0 ≤ i ∧ i ≤ (k - 2 : Nat)
        · obtain ⟨j, rfl⟩ : ∃ j : Nat, i = j := ⟨i.toNat, by omega⟩
          by_cases hp : pSg n D (pr n u v) = 0
          · exact scales_err _ _ _ _ _ _ _ 12 (by omega) sl hs (Number_no n k j D u v h (by omega) hp)
          · have hn : 0 < n := h.n0
            have hn1 := h.n1
            have hd0 := h.d0
            have hd1 := h.d1
            have sa := awake40_sp
            have m1 := sm_max hs.1
            have m2 := sm_min hs.2
            have s1 := Number_ok n k j D u v h (by omega) hp
            have sm := mod40_sp l n h.n0 h.n1
            have hq := rz_lt hn l
            have sx := Chi_sp n k (rz n l) D h hq
            have sk := Kron_sp D ((rz n l + n : Nat) : Int) (by omega) (by omega) (by omega) (by omega)
            rw [Int.natCast_add] at sk
            have bd : ∀ x : Int, -1000 ≤ x ∧ x ≤ 1000 → -120000 ≤ ((rz n l : Nat) : Int) * x ∧ ((rz n l : Nat) : Int) * x ≤ 120000 := fun x hx => by
              have := mul_bd (A := 120) (B := 1000) (Int.natCast_nonneg (rz n l)) (by omega) hx.1 hx.2 (by omega)
              omega
            have b1 := bd u ⟨hs.2.1, hs.1.1⟩
            have b2 := bd v ⟨hs.2.2.1, hs.1.2.1⟩
            have emu := mu_pr hn (rz n l) u v
            have hy := pr_lt hn u v
            by_cases hg : Nat.gcd (rz n l) n = 1
            · rw [if_pos hg] at sx
              obtain ⟨t, ht, ht2⟩ := uu_of hn hg
              have ek := kro_mod h ht.1 ht2.symm
              obtain ⟨x1, x2⟩ := pl_scale hn h.dz h.d4 h.dvd ht hy
              rw [mu_cong ht2, emu] at x1 x2
              have hku := kro_unit h ht
              have hun : pSg n D (pr n u v) = 1 ∨ pSg n D (pr n u v) = -1 := by
                rcases pSg_cases h hy with ⟨_, e⟩ | ⟨_, e⟩
                · exact e
                · exact absurd e hp
              have s2 := Number_ok n k j D (((rz n l : Nat) : Int) * u) (((rz n l : Nat) : Int) * v) h (by omega) (by
                rw [x2]
                rcases hku with e | e <;> rcases hun with f | f <;> rw [e, f] <;> decide)
              rw [x1, x2] at s2
              rw [Int.natCast_add] at ek
              rw [Int.natCast_add, ek] at sx
              rw [ek] at sk
              have hk0 : kro D t ≠ 0 := by rcases hku with e | e <;> omega
              clear ek x1 x2 emu hy bd m2
              have m2 := sm_min hs.2
              generalize kro D (t : Int) = kk at *
              generalize pSg n D (pr n u v) = pp at *
              have hpr : -1 ≤ kk * pp ∧ kk * pp ≤ 1 := by rcases hku with e | e <;> rcases hun with f | f <;> rw [e, f] <;> decide
              rcases hun with hun | hun
              · refine fn_sp (C := CX) [] [] tysX_ok mixed Tryd.func5 rfl (by kernel_rfl) Tryd.ntmps5 rfl rfl ?_
                repeat' ((conv => whnf); first | (refine Cases.n ?_ (decide_eq_false m2)) | (refine Cases.n ?_ (decide_eq_false m1)) | refine Ob.g ?_ | refine WrOb.g ?_ | refine WrOb.u32 ?_ | refine WrOb.u64 ?_ | refine Cases.y ?_ | refine Cases.n ?_ | refine Idx.g rfl ?_ | refine Idx.z rfl ?_ | refine DrawOb.start ?_ | refine TryF.f ?_ | refine TryF.next rfl ?_ | refine TryF.other ?_ | refine TryA.g ?_ | refine TryA.next rfl ?_ | refine TryA.other ?_ | refine TryS.g ?_ | refine TryS.next rfl ?_ | refine TryS.other ?_ | refine TryG.g ?_ | refine TryG.next rfl ?_ | refine TryG.other ?_ | refine TryT.g ?_ | refine Sp.g (sa) ?_ | refine Sp.g (sl) ?_ | refine Sp.g (s1) ?_ | refine Sp.g (sm) ?_ | refine Sp.g (s2) ?_ | refine Sp.g (sx) ?_ | refine Sp.g (sk) ?_)
                refine ⟨⟨_, _, rfl, rfl, ?_⟩⟩
                exact AvLe.refl _
              · refine fn_sp (C := CX) [] [] tysX_ok mixed Tryd.func5 rfl (by kernel_rfl) Tryd.ntmps5 rfl rfl ?_
                repeat' ((conv => whnf); first | (refine Cases.n ?_ (decide_eq_false m2)) | (refine Cases.n ?_ (decide_eq_false m1)) | refine Ob.g ?_ | refine WrOb.g ?_ | refine WrOb.u32 ?_ | refine WrOb.u64 ?_ | refine Cases.y ?_ | refine Cases.n ?_ | refine Idx.g rfl ?_ | refine Idx.z rfl ?_ | refine DrawOb.start ?_ | refine TryF.f ?_ | refine TryF.next rfl ?_ | refine TryF.other ?_ | refine TryA.g ?_ | refine TryA.next rfl ?_ | refine TryA.other ?_ | refine TryS.g ?_ | refine TryS.next rfl ?_ | refine TryS.other ?_ | refine TryG.g ?_ | refine TryG.next rfl ?_ | refine TryG.other ?_ | refine TryT.g ?_ | refine Sp.g (sa) ?_ | refine Sp.g (sl) ?_ | refine Sp.g (s1) ?_ | refine Sp.g (sm) ?_ | refine Sp.g (s2) ?_ | refine Sp.g (sx) ?_ | refine Sp.g (sk) ?_)
                refine ⟨⟨_, _, rfl, rfl, ?_⟩⟩
                exact AvLe.bool (decide_eq_true hun)
            · rw [if_neg hg] at sx
              have s2 := Number_no n k j D (((rz n l : Nat) : Int) * u) (((rz n l : Nat) : Int) * v) h (by omega) (by
                rw [← emu]
                exact pSg_no (not_cop hn hg))
              refine fn_sp (C := CX) [] [] tysX_ok mixed Tryd.func5 rfl (by kernel_rfl) Tryd.ntmps5 rfl rfl ?_
              repeat' ((conv => whnf); first | (refine Cases.n ?_ (decide_eq_false m2)) | (refine Cases.n ?_ (decide_eq_false m1)) | refine Ob.g ?_ | refine WrOb.g ?_ | refine WrOb.u32 ?_ | refine WrOb.u64 ?_ | refine Cases.y ?_ | refine Cases.n ?_ | refine Idx.g rfl ?_ | refine Idx.z rfl ?_ | refine DrawOb.start ?_ | refine TryF.f ?_ | refine TryF.next rfl ?_ | refine TryF.other ?_ | refine TryA.g ?_ | refine TryA.next rfl ?_ | refine TryA.other ?_ | refine TryS.g ?_ | refine TryS.next rfl ?_ | refine TryS.other ?_ | refine TryG.g ?_ | refine TryG.next rfl ?_ | refine TryG.other ?_ | refine TryT.g ?_ | refine Sp.g (sa) ?_ | refine Sp.g (sl) ?_ | refine Sp.g (s1) ?_ | refine Sp.g (sm) ?_ | refine Sp.g (s2) ?_ | refine Sp.g (sx) ?_)
              refine ⟨⟨_, _, rfl, rfl, ?_⟩⟩
              exact AvLe.refl _
        · exact scales_err _ _ _ _ _ _ _ 2 (by omega) sl hs (Number_out n k D i u v h hi)
      · exact scales_big _ _ _ _ _ _ _ sl hs
  · have sl := Large_bad L K D hd
    by_cases hs : SmallS u v l
    · exact scales_err _ _ _ _ _ _ _ _ hd sl hs (Number_bad L K D i u v hd)
    · exact scales_big _ _ _ _ _ _ _ sl hs
end Go.Proofs.YtedfcemebdlgfaaDoor

