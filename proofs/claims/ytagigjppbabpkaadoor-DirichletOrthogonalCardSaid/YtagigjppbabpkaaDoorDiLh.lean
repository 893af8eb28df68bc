/- Dirichlet characters: the laws of extended and primitive characters, of products, of orthogonality, walked. -/
import Derived.Test.YtagigjppbabpkaaDoorPkDiLa
namespace HP
open Go.Proofs.YtagigjppbabpkaaDoor
/-- how many of the first characters are 1 at r -/
def cntV (n r : Nat) : Nat → Nat
  | 0 => 0
  | i + 1 => cntV n r i + bif Nat.beq (Vn n (fun j => (allZ n (np n) i).getD j 0) r) 0 then 1 else 0
theorem orth_chk : allB 61 (fun n => Nat.beq n 0 || allB n fun r => Nat.gcd r n != 1 || match ordO r n with
    | some d => Nat.beq (cntV n r (dn n (np n)) * d) (dn n (np n))
    | none => false) = true := by decide +kernel
theorem orth_at {n r : Nat} (n0 : 1 ≤ n) (n1 : n ≤ 60) (hr : r < n) (hg : Nat.gcd r n = 1) : ∃ d, ordO r n = some d ∧ cntV n r (dn n (np n)) * d = dn n (np n) := by
  have h := allB_at (allB_pos orth_chk n0 (show n < 61 by omega)) hr
  rw [hg, bne_self_eq_false, Bool.false_or] at h
  split at h
  · next d hd => exact ⟨d, hd, Nat.eq_of_beq_eq_true h⟩
  · cases h
theorem allZ_lt {n : Nat} (n1 : n ≤ 60) : ∀ i j k, i ≤ np n → k < i → (allZ n i j).getD k 0 < (prtAt n k).o
  | 0, _, _, _, h => absurd h (Nat.not_lt_zero _)
  | i + 1, j, k, hi, hk => by
    have hl := allZ_len n i (j / (prtAt n i).o)
    rw [allZ, List.getD_eq_getElem?_getD]
    by_cases hki : k < i
    · rw [List.getElem?_append_left (by omega), ← List.getD_eq_getElem?_getD]
      exact allZ_lt n1 i _ k (by omega) hki
    · obtain rfl : k = i := by omega
      rw [List.getElem?_append_right (by omega), hl, Nat.sub_self]
      exact Nat.mod_lt _ (prt_z n1 (show k < np n by omega)).o1
theorem cntV_le (n r : Nat) : ∀ i, cntV n r i ≤ i
  | 0 => Nat.le_refl _
  | i + 1 => by
    have := cntV_le n r i
    rw [cntV]
    cases Nat.beq (Vn n (fun j => (allZ n (np n) i).getD j 0) r) 0 <;> simp <;> omega
end HP
namespace Go.Proofs.YtagigjppbabpkaaDoor
open Go Go.RowKit Go.VG HP
set_option maxHeartbeats 8000000 in
theorem law_orth (n a : Int) (hn1 : -9223372036854775808 ≤ n) (hn2 : n ≤ 9223372036854775807) (ha1 : -32768 ≤ a) (ha2 : a ≤ 32767) : Sp CX 12 [int .i64 n, int .i16 a] (bool true) := by
  have sa := awake28_sp
  by_cases h : n < 1 ∨ 60 < n
  · have s1 := All_bad n h
    clear h
    refine fn_sp (C := CX) [] [] tysX_ok mixed Tryd.func12 rfl (by kernel_rfl) Tryd.ntmps12 rfl rfl ?_
    repeat' ((conv => whnf); first | refine Ob.g ?_ | refine Cases.y ?_ | refine Cases.n ?_ | refine Idx.g rfl ?_ | refine Idx.z rfl ?_ | refine DrawOb.start ?_ | refine TryF.f ?_ | refine TryF.next rfl ?_ | refine TryF.other ?_ | refine TryA.g ?_ | refine TryA.next rfl ?_ | refine TryA.other ?_ | refine TryS.g ?_ | refine TryS.next rfl ?_ | refine TryS.other ?_ | refine TryG.g ?_ | refine TryG.next rfl ?_ | refine Sp.g (sa) ?_ | refine Sp.g (s1) ?_)
    refine ⟨⟨_, _, rfl, rfl, ?_⟩⟩
    exact AvLe.refl _
  · obtain ⟨m, rfl⟩ : ∃ m : Nat, n = m := ⟨n.toNat, by omega⟩
    have n0 : 1 ≤ m := by omega
    have n1 : m ≤ 60 := by omega
    clear h
    have s1 := (All_sp m n0 n1).weak (r' := .tup [.c (.sl 2 (List Nat) (chmL m) (allZ m (np m)) (dn m (np m))), .c (ix 0)]) (.tup (.cons (.leaf (.sl fun _ _ _ _ => chl_chm _ _ _)) (.cons (.refl _) .nil))) rfl
    have s2 := gcd18_sp a m (by omega) (by omega) (by omega) (by omega)
    by_cases hg : Int.gcd a m = 1
    · rw [hg] at s2
      have s3 := mod_sp a m (by omega) (by omega) (by omega) (by omega)
      rw [← rs_nat (show 0 < m by omega)] at s3
      have hrl := rs_lt (a := a) (q := m) (by omega)
      have hrg : Nat.gcd (rs a m) m = 1 := by rw [gcd_rs n0]; exact hg
      obtain ⟨d, hd, hcnt⟩ := orth_at n0 n1 hrl hrg
      obtain ⟨d1, d2, d3⟩ := ordO_spec hd
      have hdm := ordO_le hd
      clear hd
      have hps : ∀ k, ((powM (rs a m) m k : Nat) * (rs a m : Nat) : Int).tmod m = ((powM (rs a m) m (k + 1) : Nat) : Int) := fun k => by
        rw [powM, ← Int.natCast_mul]; exact (Int.ofNat_tmod _ _).symm
      have hpl : ∀ k, powM (rs a m) m k < m := fun k => by rw [powM_eq]; exact Nat.mod_lt _ (by omega)
      have hp1 : powM (rs a m) m 1 = rs a m := by rw [powM_one, Nat.mod_eq_of_lt hrl]
      have e1m : (1 : Int).tmod m = ((1 % m : Nat) : Int) := by have := (Int.ofNat_tmod 1 m).symm; simpa using this
      have hV : ∀ E, valR m E a = (false, chv m E a) ∧ ((chv m E a).1 = 0 ↔ Vn m E (rs a m) = 0) := fun E => by
        refine ⟨by unfold valR; rw [if_pos hg], ?_⟩
        rw [chv_rs n0 n1]
        exact V_zero n0 n1 _
      generalize rs a m = r at *
      have hD := dn_le n1 (Nat.le_refl (np m))
      have hl := np_le n1
      refine fn_sp (C := CX) [] [] tysX_ok mixed Tryd.func12 rfl (by kernel_rfl) Tryd.ntmps12 rfl rfl ?_
      repeat' ((conv => whnf); first | refine Ob.g ?_ | refine Cases.y ?_ | refine Cases.n ?_ | refine Idx.g rfl ?_ | refine Idx.z rfl ?_ | refine DrawOb.start ?_ | refine TryF.f ?_ | refine TryF.next rfl ?_ | refine TryF.other ?_ | refine TryA.g ?_ | refine TryA.next rfl ?_ | refine TryA.other ?_ | refine TryS.g ?_ | refine TryS.next rfl ?_ | refine TryS.other ?_ | refine TryG.g ?_ | refine TryG.next rfl ?_ | refine Sp.g (sa) ?_ | refine Sp.g (s1) ?_ | refine Sp.g (s2) ?_ | refine Sp.g (s3) ?_)
      refine ⟨⟨Nat × Nat, fun (k, y) => ⟨[(0, int .i64 m), (1, int .i16 a), (5, .v (.c (.sl 2 (List Nat) (chmL m) (allZ m (np m)) (dn m (np m))))), (7, int .i64 k), (8, int .i64 r), (9, int .i64 y)], [], 0⟩, fun (k, y) => 1 ≤ k ∧ k ≤ d ∧ Hid (y = powM r m k), fun (k, _) => d - k, ⟨(1, r), [], ⟨Nat.le_refl _, d1, Lib.hid hp1.symm⟩, Ent.g⟩, ?_⟩⟩
      rintro ⟨k, y⟩ ⟨k1, k2, hy⟩
      have hyl := hpl k
      rw [← hy.out] at hyl
      by_cases hk : k < d
      · have hne := d3 k k1 hk
        rw [← hy.out] at hne
        have hyr : y * r ≤ 60 * 60 := Nat.mul_le_mul (by omega) (by omega)
        have i1 : (y : Int) * r = ((y * r : Nat) : Int) := by push_cast; rfl
        have e2 := hps k
        rw [← hy.out] at e2
        have h4 := hpl (k + 1)
        obtain ⟨z, hz⟩ : ∃ z, z = powM r m (k + 1) := ⟨_, rfl⟩
        rw [← hz] at e2 h4
        have HZ := Lib.hid hz
        clear hps hpl hV d3 d2 hcnt hz hy
        repeat' ((conv => whnf); first | refine Ob.g ?_ | refine Cases.y ?_ | refine Cases.n ?_ | refine Idx.g rfl ?_ | refine Idx.z rfl ?_ | refine DrawOb.start ?_ | refine TryF.f ?_ | refine TryF.next rfl ?_ | refine TryF.other ?_ | refine TryA.g ?_ | refine TryA.next rfl ?_ | refine TryA.other ?_ | refine TryS.g ?_ | refine TryS.next rfl ?_ | refine TryS.other ?_ | refine TryG.g ?_ | refine TryG.next rfl ?_)
        exact ⟨(k + 1, z), [], ⟨by omega, hk, HZ⟩, by show d - (k + 1) < d - k; omega, Ent.g⟩
      · obtain rfl : k = d := by omega
        have hy1 : y = 1 % m := hy.out.trans d2
        clear hps hpl d3 d2 hy
        repeat' ((conv => whnf); first | refine Ob.g ?_ | refine Cases.y ?_ | refine Cases.n ?_ | refine Idx.g rfl ?_ | refine Idx.z rfl ?_ | refine DrawOb.start ?_ | refine TryF.f ?_ | refine TryF.next rfl ?_ | refine TryF.other ?_ | refine TryA.g ?_ | refine TryA.next rfl ?_ | refine TryA.other ?_ | refine TryS.g ?_ | refine TryS.next rfl ?_ | refine TryS.other ?_ | refine TryG.g ?_ | refine TryG.next rfl ?_)
        refine ⟨⟨Nat × Nat, fun (i, c) => ⟨[(0, int .i64 m), (1, int .i16 a), (5, .v (.c (.sl 2 (List Nat) (chmL m) (allZ m (np m)) (dn m (np m))))), (7, int .i64 k), (10, int .i64 c), (11, int .i64 i)], [], 0⟩, fun (i, c) => i ≤ dn m (np m) ∧ Hid (c = cntV m r i), fun (i, _) => dn m (np m) - i, ⟨(0, 0), [], ⟨Nat.zero_le _, Lib.hid rfl⟩, Ent.g⟩, ?_⟩⟩
        rintro ⟨i, c⟩ ⟨hi, hc⟩
        have hcl := cntV_le m r i
        rw [← hc.out] at hcl
        by_cases hiD : i < dn m (np m)
        · have hlen := allZ_len m (np m) i
          have hck := chk_mk (X := fun j => (((allZ m (np m) i).getD j 0 : Nat) : Int)) (E := fun j => (allZ m (np m) i).getD j 0) n0 n1 (fun j hj => ⟨rfl, allZ_lt n1 (np m) i j (Nat.le_refl _) hj⟩)
          have s4 := Value_sp m (fun j => (((allZ m (np m) i).getD j 0 : Nat) : Int)) (np m) a
          have ev : vR m (fun j => (((allZ m (np m) i).getD j 0 : Nat) : Int)) (np m) a = (valR m (fun j => (allZ m (np m) i).getD j 0) a, 0) := by
            unfold vR
            rw [if_neg (by rw [hck]; simp), if_neg (by omega), Int.toNat_natCast]
            simp only [Int.toNat_natCast]
          obtain ⟨v1, v2⟩ := hV (fun j => (allZ m (np m) i).getD j 0)
          rw [ev, v1] at s4
          have hS : cntV m r (i + 1) = cntV m r i + bif Nat.beq (Vn m (fun j => (allZ m (np m) i).getD j 0) r) 0 then 1 else 0 := rfl
          rw [← hc.out] at hS
          have s5 : Sp CX 32 [.v (.agg [chmL m (allZ m (np m) i) 0, chmL m (allZ m (np m) i) 1]), int .i64 a] (.tup [.agg [.x (.bool false), ix (chv m (fun j => (allZ m (np m) i).getD j 0) a).1, ix (chv m (fun j => (allZ m (np m) i).getD j 0) a).2], .c (ix 0)]) := by
            have hle : AvLe (.v (.agg [chmL m (allZ m (np m) i) 0, chmL m (allZ m (np m) i) 1])) (chA m (fun j => (((allZ m (np m) i).getD j 0 : Nat) : Int)) (np m)) := .agg (.cons (.refl _) (.cons (.trans (b := .sl 1 Nat nsL (fun j => (allZ m (np m) i).getD j 0) (np m)) (.eq (show chmL m (allZ m (np m) i) 1 = _ by
              unfold chmL
              rw [if_neg (by omega), hlen])) (ns_xs _ _)) .nil))
            exact ⟨s4.ok, s4.cl, fun O w vs h1 h2 h3 => s4.w O w vs h1 h2 fun ρ' w' hx => (ArgsLe.cons hle (.cons (.refl _) .nil)).args (h3 ρ' w' hx)⟩
          clear ev v1 hck s4 hV hcnt
          generalize hP : chv m (fun j => (allZ m (np m) i).getD j 0) a = P at *
          by_cases hz : P.1 = 0
          · rw [v2.1 hz, Nat.beq_refl] at hS
            have HS := Lib.hid hS
            clear hS v2 hc hP
            repeat' ((conv => whnf); first | refine Ob.g ?_ | refine Cases.y ?_ | refine Cases.n ?_ | refine Idx.g rfl ?_ | refine Idx.z rfl ?_ | refine DrawOb.start ?_ | refine TryF.f ?_ | refine TryF.next rfl ?_ | refine TryF.other ?_ | refine TryA.g ?_ | refine TryA.next rfl ?_ | refine TryA.other ?_ | refine TryS.g ?_ | refine TryS.next rfl ?_ | refine TryS.other ?_ | refine TryG.g ?_ | refine TryG.next rfl ?_ | refine Sp.g (s5) ?_)
            exact ⟨(i + 1, c + 1), [], ⟨hiD, Lib.hid HS.out.symm⟩, by show dn m (np m) - (i + 1) < dn m (np m) - i; omega, Ent.g⟩
          · rw [nbeq_ff (fun h => hz (v2.2 h))] at hS
            have HS := Lib.hid hS
            clear hS v2 hc hP
            repeat' ((conv => whnf); first | refine Ob.g ?_ | refine Cases.y ?_ | refine Cases.n ?_ | refine Idx.g rfl ?_ | refine Idx.z rfl ?_ | refine DrawOb.start ?_ | refine TryF.f ?_ | refine TryF.next rfl ?_ | refine TryF.other ?_ | refine TryA.g ?_ | refine TryA.next rfl ?_ | refine TryA.other ?_ | refine TryS.g ?_ | refine TryS.next rfl ?_ | refine TryS.other ?_ | refine TryG.g ?_ | refine TryG.next rfl ?_ | refine Sp.g (s5) ?_)
            exact ⟨(i + 1, c), [], ⟨hiD, Lib.hid HS.out.symm⟩, by show dn m (np m) - (i + 1) < dn m (np m) - i; omega, Ent.g⟩
        · obtain rfl : i = dn m (np m) := by omega
          rw [← hc.out] at hcnt
          have hcd : c * k ≤ 60 * 60 := Nat.mul_le_mul (by omega) (by omega)
          have i1 : (c : Int) * k = ((c * k : Nat) : Int) := by push_cast; rfl
          clear hV hc
          repeat' ((conv => whnf); first | refine Ob.g ?_ | refine Cases.y ?_ | refine Cases.n ?_ | refine Idx.g rfl ?_ | refine Idx.z rfl ?_ | refine DrawOb.start ?_ | refine TryF.f ?_ | refine TryF.next rfl ?_ | refine TryF.other ?_ | refine TryA.g ?_ | refine TryA.next rfl ?_ | refine TryA.other ?_ | refine TryS.g ?_ | refine TryS.next rfl ?_ | refine TryS.other ?_ | refine TryG.g ?_ | refine TryG.next rfl ?_)
          refine ⟨⟨_, _, rfl, rfl, ?_⟩⟩
          refine AvLe.bool ?_
          exact decide_eq_true (by rw [i1, hcnt])
    · generalize Int.gcd a m = g at *
      refine fn_sp (C := CX) [] [] tysX_ok mixed Tryd.func12 rfl (by kernel_rfl) Tryd.ntmps12 rfl rfl ?_
      repeat' ((conv => whnf); first | refine Ob.g ?_ | refine Cases.y ?_ | refine Cases.n ?_ | refine Idx.g rfl ?_ | refine Idx.z rfl ?_ | refine DrawOb.start ?_ | refine TryF.f ?_ | refine TryF.next rfl ?_ | refine TryF.other ?_ | refine TryA.g ?_ | refine TryA.next rfl ?_ | refine TryA.other ?_ | refine TryS.g ?_ | refine TryS.next rfl ?_ | refine TryS.other ?_ | refine TryG.g ?_ | refine TryG.next rfl ?_ | refine Sp.g (sa) ?_ | refine Sp.g (s1) ?_ | refine Sp.g (s2) ?_)
      refine ⟨⟨_, _, rfl, rfl, ?_⟩⟩
      exact AvLe.refl _
end Go.Proofs.YtagigjppbabpkaaDoor
