/- Own texts joined: MnP, MnQ, MnR, MnS, MnT. -/
import Derived.Test.YtedfcemebdlgfaaDoorPkMnM
import Derived.Test.YtedfcemebdlgfaaDoorLawKron
/- The reference's Count, Large, Chi, class, walked. -/
namespace Go.Proofs.YtedfcemebdlgfaaDoor
open Go Go.RowKit Go.VG HP
theorem rKron_sp (D q : Int) (h1 : -1000000 ≤ D) (h2 : D ≤ 1000000) (h3 : -1000000 ≤ q) (h4 : q ≤ 1000000) : Sp CX 50 [int .i64 D, int .i64 q] (int .i64 (kro D q)) := by
  refine .of_val (vs0 := [.int .i64 D, .int .i64 q]) (callOk Tryd.func50 (by kernel_rfl) (by kernel_rfl)) rfl (fun ρ w vs h => ?_) (fun _ _ => ⟨rfl, rfl⟩) fun w hG => (rkro_any D q w (by omega) (by omega) (by omega) (by omega)).mono fun _ _ ⟨h1, h2⟩ => ⟨h1, h2⟩
  match vs, h with
  | [_, _], ⟨⟨_, rfl⟩, ⟨_, rfl⟩, _⟩ => rfl
theorem gcd40_sp (a b : Nat) (ha : a ≤ 100000) (hb : b ≤ 100000) : Sp CX 49 [int .i64 a, int .i64 b] (int .i64 (Nat.gcd a b : Nat)) := by
  refine fn_sp (C := CX) [] [] tysX_ok mixed Tryd.func49 rfl (by kernel_rfl) Tryd.ntmps49 rfl rfl ?_
  repeat' ((conv => whnf); first | refine Ob.g ?_ | refine WrOb.g ?_ | refine WrOb.u32 ?_ | refine WrOb.u64 ?_ | refine Cases.y ?_ | refine Cases.n ?_ | refine Idx.g rfl ?_ | refine Idx.z rfl ?_ | refine DrawOb.start ?_ | refine TryF.f ?_ | refine TryF.next rfl ?_ | refine TryF.other ?_ | refine TryA.g ?_ | refine TryA.next rfl ?_ | refine TryA.other ?_ | refine TryS.g ?_ | refine TryS.next rfl ?_ | refine TryS.other ?_ | refine TryG.g ?_ | refine TryG.next rfl ?_ | refine TryG.other ?_ | refine TryT.g ?_)
  refine ⟨⟨Nat × Nat, fun (x, y) => ⟨[(0, int .i64 x), (1, int .i64 y)], [], 0⟩, fun (x, y) => x ≤ 100000 ∧ y ≤ 100000 ∧ Nat.gcd x y = Nat.gcd a b, fun (_, y) => y, ⟨(a, b), [], ⟨ha, hb, rfl⟩, Ent.g⟩, ?_⟩⟩
  rintro ⟨x, y⟩ ⟨hx, hy, hg⟩
  by_cases h0 : y = 0
  · subst h0
    rw [Nat.gcd_zero_right] at hg
    subst hg
    repeat' ((conv => whnf); first | refine Ob.g ?_ | refine WrOb.g ?_ | refine WrOb.u32 ?_ | refine WrOb.u64 ?_ | refine Cases.y ?_ | refine Cases.n ?_ | refine Idx.g rfl ?_ | refine Idx.z rfl ?_ | refine DrawOb.start ?_ | refine TryF.f ?_ | refine TryF.next rfl ?_ | refine TryF.other ?_ | refine TryA.g ?_ | refine TryA.next rfl ?_ | refine TryA.other ?_ | refine TryS.g ?_ | refine TryS.next rfl ?_ | refine TryS.other ?_ | refine TryG.g ?_ | refine TryG.next rfl ?_ | refine TryG.other ?_ | refine TryT.g ?_)
    refine ⟨⟨_, _, rfl, rfl, ?_⟩⟩
    exact AvLe.refl _
  · have e : (x : Int).tmod y = ((x % y : Nat) : Int) := (Int.ofNat_tmod _ _).symm
    have hl := Nat.mod_lt x (show y > 0 by omega)
    have hg2 : Nat.gcd y (x % y) = Nat.gcd a b := by rw [← hg, Nat.gcd_comm x y, Nat.gcd_rec y x, Nat.gcd_comm]
    repeat' ((conv => whnf); first | refine Ob.g ?_ | refine WrOb.g ?_ | refine WrOb.u32 ?_ | refine WrOb.u64 ?_ | refine Cases.y ?_ | refine Cases.n ?_ | refine Idx.g rfl ?_ | refine Idx.z rfl ?_ | refine DrawOb.start ?_ | refine TryF.f ?_ | refine TryF.next rfl ?_ | refine TryF.other ?_ | refine TryA.g ?_ | refine TryA.next rfl ?_ | refine TryA.other ?_ | refine TryS.g ?_ | refine TryS.next rfl ?_ | refine TryS.other ?_ | refine TryG.g ?_ | refine TryG.next rfl ?_ | refine TryG.other ?_ | refine TryT.g ?_)
    exact ⟨(y, x % y), [], ⟨hy, by omega, hg2⟩, hl, by
      refine ⟨?_, .nil, rfl⟩
      refine TmE.cons (.refl _) ?_
      exact TmE.cons (.int e) .nil⟩
theorem mod40_sp (x : Int) (n : Nat) (n0 : 1 ≤ n) (n1 : n ≤ 120) : Sp CX 20 [int .i64 x, int .i64 n] (int .i64 (rz n x)) := by
  obtain ⟨h1, h2, h3, h4⟩ := tm_rz (show 0 < n by omega) x
  have h5 := rz_lt (show 0 < n by omega) x
  by_cases h : x.tmod n < 0
  · have h1 := h1 h
    clear h2
    refine fn_sp (C := CX) [] [] tysX_ok mixed Tryd.func20 rfl (by kernel_rfl) Tryd.ntmps20 rfl rfl ?_
    repeat' ((conv => whnf); first | refine Ob.g ?_ | refine WrOb.g ?_ | refine WrOb.u32 ?_ | refine WrOb.u64 ?_ | refine Cases.y ?_ | refine Cases.n ?_ | refine Idx.g rfl ?_ | refine Idx.z rfl ?_ | refine DrawOb.start ?_ | refine TryF.f ?_ | refine TryF.next rfl ?_ | refine TryF.other ?_ | refine TryA.g ?_ | refine TryA.next rfl ?_ | refine TryA.other ?_ | refine TryS.g ?_ | refine TryS.next rfl ?_ | refine TryS.other ?_ | refine TryG.g ?_ | refine TryG.next rfl ?_ | refine TryG.other ?_ | refine TryT.g ?_)
    refine ⟨⟨_, _, rfl, rfl, ?_⟩⟩
    exact .int (by omega)
  · have h2 := h2 (by omega)
    clear h1
    refine fn_sp (C := CX) [] [] tysX_ok mixed Tryd.func20 rfl (by kernel_rfl) Tryd.ntmps20 rfl rfl ?_
    repeat' ((conv => whnf); first | refine Ob.g ?_ | refine WrOb.g ?_ | refine WrOb.u32 ?_ | refine WrOb.u64 ?_ | refine Cases.y ?_ | refine Cases.n ?_ | refine Idx.g rfl ?_ | refine Idx.z rfl ?_ | refine DrawOb.start ?_ | refine TryF.f ?_ | refine TryF.next rfl ?_ | refine TryF.other ?_ | refine TryA.g ?_ | refine TryA.next rfl ?_ | refine TryA.other ?_ | refine TryS.g ?_ | refine TryS.next rfl ?_ | refine TryS.other ?_ | refine TryG.g ?_ | refine TryG.next rfl ?_ | refine TryG.other ?_ | refine TryT.g ?_)
    refine ⟨⟨_, _, rfl, rfl, ?_⟩⟩
    exact .int (by omega)
theorem Psi_sp (n : Nat) (n0 : 1 ≤ n) (n1 : n ≤ 120) : Sp CX 48 [int .i64 n] (int .i64 (pts n).length) := by
  have s := rList_sp n n0 n1
  refine fn_sp (C := CX) [] [] tysX_ok mixed Tryd.func48 rfl (by kernel_rfl) Tryd.ntmps48 rfl rfl ?_
  repeat' ((conv => whnf); first | refine Ob.g ?_ | refine WrOb.g ?_ | refine WrOb.u32 ?_ | refine WrOb.u64 ?_ | refine Cases.y ?_ | refine Cases.n ?_ | refine Idx.g rfl ?_ | refine Idx.z rfl ?_ | refine DrawOb.start ?_ | refine TryF.f ?_ | refine TryF.next rfl ?_ | refine TryF.other ?_ | refine TryA.g ?_ | refine TryA.next rfl ?_ | refine TryA.other ?_ | refine TryS.g ?_ | refine TryS.next rfl ?_ | refine TryS.other ?_ | refine TryG.g ?_ | refine TryG.next rfl ?_ | refine TryG.other ?_ | refine TryT.g ?_ | refine Sp.g (s) ?_)
  refine ⟨⟨_, _, rfl, rfl, ?_⟩⟩
  exact AvLe.refl _
theorem rCount_bad (L K D : Int) (h : dchk L K D ≠ 0) : Sp CX 17 [specA L K D] (.tup [.c (ix 0), .c (ix (dchk L K D))]) := by
  have s := checkr_sp L K D
  obtain ⟨e, he⟩ : ∃ e, e = dchk L K D := ⟨_, rfl⟩
  rw [← he] at s h ⊢
  refine fn_sp (C := CX) [] [] tysX_ok mixed Tryd.func17 rfl (by kernel_rfl) Tryd.ntmps17 rfl rfl ?_
  repeat' ((conv => whnf); first | refine Ob.g ?_ | refine WrOb.g ?_ | refine WrOb.u32 ?_ | refine WrOb.u64 ?_ | refine Cases.y ?_ | refine Cases.n ?_ | refine Idx.g rfl ?_ | refine Idx.z rfl ?_ | refine DrawOb.start ?_ | refine TryF.f ?_ | refine TryF.next rfl ?_ | refine TryF.other ?_ | refine TryA.g ?_ | refine TryA.next rfl ?_ | refine TryA.other ?_ | refine TryS.g ?_ | refine TryS.next rfl ?_ | refine TryS.other ?_ | refine TryG.g ?_ | refine TryG.next rfl ?_ | refine TryG.other ?_ | refine TryT.g ?_ | refine Sp.g (s) ?_)
  refine ⟨⟨_, _, rfl, rfl, ?_⟩⟩
  exact AvLe.refl _
theorem rCount_ok (n k : Nat) (D : Int) (h : DOk n k D) : Sp CX 17 [specA n k D] (.tup [.c (ix ((k - 2 + 1) * (pts n).length : Nat)), .c (ix 0)]) := by
  have s := checkr_sp n k D
  rw [h.chk] at s
  have s2 := Psi_sp n h.n0 h.n1
  have hc := mcnt_le (w := k - 2) h.n1 (by have := h.k1; omega)
  have e : (((k - 2 + 1) * (pts n).length : Nat) : Int) = ((k : Int) - 1) * (pts n).length := by
    rw [Int.natCast_mul]
    congr 1
    have := h.k0
    omega
  rw [e]
  have e1 : 0 ≤ ((k : Int) - 1) * (pts n).length ∧ ((k : Int) - 1) * (pts n).length ≤ 331200 := by rw [← e]; omega
  have hk0 := h.k0
  have hk1 := h.k1
  refine fn_sp (C := CX) [] [] tysX_ok mixed Tryd.func17 rfl (by kernel_rfl) Tryd.ntmps17 rfl rfl ?_
  repeat' ((conv => whnf); first | refine Ob.g ?_ | refine WrOb.g ?_ | refine WrOb.u32 ?_ | refine WrOb.u64 ?_ | refine Cases.y ?_ | refine Cases.n ?_ | refine Idx.g rfl ?_ | refine Idx.z rfl ?_ | refine DrawOb.start ?_ | refine TryF.f ?_ | refine TryF.next rfl ?_ | refine TryF.other ?_ | refine TryA.g ?_ | refine TryA.next rfl ?_ | refine TryA.other ?_ | refine TryS.g ?_ | refine TryS.next rfl ?_ | refine TryS.other ?_ | refine TryG.g ?_ | refine TryG.next rfl ?_ | refine TryG.other ?_ | refine TryT.g ?_ | refine Sp.g (s) ?_ | refine Sp.g (s2) ?_)
  refine ⟨⟨_, _, rfl, rfl, ?_⟩⟩
  exact AvLe.refl _
theorem Large_bad (L K D : Int) (h : dchk L K D ≠ 0) : Sp CX 13 [specA L K D] (bool false) := by
  have s := rCount_bad L K D h
  refine fn_sp (C := CX) [] [] tysX_ok mixed Tryd.func13 rfl (by kernel_rfl) Tryd.ntmps13 rfl rfl ?_
  repeat' ((conv => whnf); first | refine Ob.g ?_ | refine WrOb.g ?_ | refine WrOb.u32 ?_ | refine WrOb.u64 ?_ | refine Cases.y ?_ | refine Cases.n ?_ | refine Idx.g rfl ?_ | refine Idx.z rfl ?_ | refine DrawOb.start ?_ | refine TryF.f ?_ | refine TryF.next rfl ?_ | refine TryF.other ?_ | refine TryA.g ?_ | refine TryA.next rfl ?_ | refine TryA.other ?_ | refine TryS.g ?_ | refine TryS.next rfl ?_ | refine TryS.other ?_ | refine TryG.g ?_ | refine TryG.next rfl ?_ | refine TryG.other ?_ | refine TryT.g ?_ | refine Sp.g (s) ?_)
  refine ⟨⟨_, _, rfl, rfl, ?_⟩⟩
  exact AvLe.refl _
theorem Large_ok (n k : Nat) (D : Int) (h : DOk n k D) : Sp CX 13 [specA n k D] (bool (decide (72 < (k - 2 + 1) * (pts n).length))) := by
  have s := rCount_ok n k D h
  generalize (k - 2 + 1) * (pts n).length = c at *
  by_cases hc : 72 < c
  · rw [decide_eq_true hc]
    refine fn_sp (C := CX) [] [] tysX_ok mixed Tryd.func13 rfl (by kernel_rfl) Tryd.ntmps13 rfl rfl ?_
    repeat' ((conv => whnf); first | refine Ob.g ?_ | refine WrOb.g ?_ | refine WrOb.u32 ?_ | refine WrOb.u64 ?_ | refine Cases.y ?_ | refine Cases.n ?_ | refine Idx.g rfl ?_ | refine Idx.z rfl ?_ | refine DrawOb.start ?_ | refine TryF.f ?_ | refine TryF.next rfl ?_ | refine TryF.other ?_ | refine TryA.g ?_ | refine TryA.next rfl ?_ | refine TryA.other ?_ | refine TryS.g ?_ | refine TryS.next rfl ?_ | refine TryS.other ?_ | refine TryG.g ?_ | refine TryG.next rfl ?_ | refine TryG.other ?_ | refine TryT.g ?_ | refine Sp.g (s) ?_)
    refine ⟨⟨_, _, rfl, rfl, ?_⟩⟩
    exact .eq (congrArg bool (decide_eq_true (by omega)))
  · rw [decide_eq_false hc]
    refine fn_sp (C := CX) [] [] tysX_ok mixed Tryd.func13 rfl (by kernel_rfl) Tryd.ntmps13 rfl rfl ?_
    repeat' ((conv => whnf); first | refine Ob.g ?_ | refine WrOb.g ?_ | refine WrOb.u32 ?_ | refine WrOb.u64 ?_ | refine Cases.y ?_ | refine Cases.n ?_ | refine Idx.g rfl ?_ | refine Idx.z rfl ?_ | refine DrawOb.start ?_ | refine TryF.f ?_ | refine TryF.next rfl ?_ | refine TryF.other ?_ | refine TryA.g ?_ | refine TryA.next rfl ?_ | refine TryA.other ?_ | refine TryS.g ?_ | refine TryS.next rfl ?_ | refine TryS.other ?_ | refine TryG.g ?_ | refine TryG.next rfl ?_ | refine TryG.other ?_ | refine TryT.g ?_ | refine Sp.g (s) ?_)
    refine ⟨⟨_, _, rfl, rfl, ?_⟩⟩
    exact .eq (congrArg bool (decide_eq_false (by omega)))
theorem Chi_sp (n k f : Nat) (D : Int) (h : DOk n k D) (hf : f < n) : Sp CX 21 [specA n k D, int .i64 f] (int .i64 (if Nat.gcd f n = 1 then kro D ((f + n : Nat) : Int) else 0)) := by
  have n0 := h.n0
  have n1 := h.n1
  have d0 := h.d0
  have d1 := h.d1
  have s1 := mod40_sp f n h.n0 h.n1
  rw [rz_nat, Nat.mod_eq_of_lt hf] at s1
  have s2 := gcd40_sp f n (by omega) (by omega)
  by_cases hg : Nat.gcd f n = 1
  · rw [if_pos hg]
    have s3 := rKron_sp D ((f + n : Nat) : Int) (by omega) (by omega) (by omega) (by omega)
    rw [Int.natCast_add] at s3 ⊢
    refine fn_sp (C := CX) [] [] tysX_ok mixed Tryd.func21 rfl (by kernel_rfl) Tryd.ntmps21 rfl rfl ?_
    repeat' ((conv => whnf); first | refine Ob.g ?_ | refine WrOb.g ?_ | refine WrOb.u32 ?_ | refine WrOb.u64 ?_ | refine Cases.y ?_ | refine Cases.n ?_ | refine Idx.g rfl ?_ | refine Idx.z rfl ?_ | refine DrawOb.start ?_ | refine TryF.f ?_ | refine TryF.next rfl ?_ | refine TryF.other ?_ | refine TryA.g ?_ | refine TryA.next rfl ?_ | refine TryA.other ?_ | refine TryS.g ?_ | refine TryS.next rfl ?_ | refine TryS.other ?_ | refine TryG.g ?_ | refine TryG.next rfl ?_ | refine TryG.other ?_ | refine TryT.g ?_ | refine Sp.g (s1) ?_ | refine Sp.g (s2) ?_ | refine Sp.g (s3) ?_)
    refine ⟨⟨_, _, rfl, rfl, ?_⟩⟩
    exact AvLe.refl _
  · rw [if_neg hg]
    have hg2 : ((Nat.gcd f n : Nat) : Int) ≠ 1 := by omega
    refine fn_sp (C := CX) [] [] tysX_ok mixed Tryd.func21 rfl (by kernel_rfl) Tryd.ntmps21 rfl rfl ?_
    repeat' ((conv => whnf); first | refine Ob.g ?_ | refine WrOb.g ?_ | refine WrOb.u32 ?_ | refine WrOb.u64 ?_ | refine Cases.y ?_ | refine Cases.n ?_ | refine Idx.g rfl ?_ | refine Idx.z rfl ?_ | refine DrawOb.start ?_ | refine TryF.f ?_ | refine TryF.next rfl ?_ | refine TryF.other ?_ | refine TryA.g ?_ | refine TryA.next rfl ?_ | refine TryA.other ?_ | refine TryS.g ?_ | refine TryS.next rfl ?_ | refine TryS.other ?_ | refine TryG.g ?_ | refine TryG.next rfl ?_ | refine TryG.other ?_ | refine TryT.g ?_ | refine Sp.g (s1) ?_ | refine Sp.g (s2) ?_)
    refine ⟨⟨_, _, rfl, rfl, ?_⟩⟩
    exact AvLe.refl _
end Go.Proofs.YtedfcemebdlgfaaDoor

/- The reference's class, Symbol, Number, Star, walked. -/
namespace Go.Proofs.YtedfcemebdlgfaaDoor
open Go Go.RowKit Go.VG HP
theorem mu_iff {n f x y : Nat} (hn : 0 < n) : mu n f x = y ↔ f * (x / n) % n = y / n ∧ f * (x % n) % n = y % n := by
  constructor
  · intro h
    rw [← h, mu_div hn, mu_mod hn]
    exact ⟨rfl, rfl⟩
  · rintro ⟨h1, h2⟩
    unfold mu
    rw [h1, h2, Nat.mul_comm, Nat.div_add_mod]
theorem gcd_mod {n l : Nat} : Nat.gcd (l % n) n = Nat.gcd l n := by rw [← Nat.gcd_rec, Nat.gcd_comm]
theorem kro_mod {n k f l : Nat} {D : Int} (h : DOk n k D) (hl : 0 < l) (e : f % n = l % n) : kro D ((f + n : Nat) : Int) = kro D l := by
  rw [kro_nat (show 0 < f + n by have := h.n0; omega), kro_nat hl]
  exact jac_cong h.dz h.d4 h.dvd (by have := h.n0; omega) hl (by rw [Nat.add_mod_right]; exact e)
/-- what the search finds -/
theorem cls_yes {n k f j y : Nat} {D : Int} (h : DOk n k D) (hj : j < (pts n).length) (hg : Nat.gcd f n = 1) (e : mu n f (pt n j) = y) : pIx n y = j ∧ pSg n D y = kro D ((f + n : Nat) : Int) := by
  have hn : 0 < n := h.n0
  obtain ⟨l, hl, hl2⟩ := uu_of hn hg
  have hp : Pl n y j l := ⟨hl, pt n j, pt_at hj, by rw [mu_cong hl2, e]⟩
  exact ⟨pIx_of hn hp, by rw [pSg_of hn hp]; exact (kro_mod h hl.1 hl2.symm).symm⟩
theorem cls_no {n k y : Nat} {D : Int} (h : DOk n k D) (hy : y < n * n) (hno : ∀ j, j < (pts n).length → ∀ f, f < n → Nat.gcd f n = 1 → mu n f (pt n j) ≠ y) : copB n y = false := by
  have hn : 0 < n := h.n0
  cases hc : copB n y with
  | false => rfl
  | true =>
    obtain ⟨j, l, hp⟩ := Pl.ex hn hy hc
    have hj := (hp.lt hn).2
    obtain ⟨hl, x, hx, hm⟩ := hp
    exact absurd (by rw [mu_cong (Nat.mod_mod_of_dvd l (Nat.dvd_refl n)), pt_of hx]; exact hm) (hno j hj (l % n) (Nat.mod_lt _ hn) (by rw [gcd_mod]; exact hl.2.2))
set_option maxHeartbeats 16000000 in
set_option maxRecDepth 20000 in
theorem class_sp (n k : Nat) (D u v : Int) (h : DOk n k D) : Sp CX 46 [specA n k D, .v (.c (.sl 3 Nat (ptL n) (pt n) (pts n).length)), int .i64 u, int .i64 v] (.tup [.c (ix (pIx n (pr n u v))), .c (ix (pSg n D (pr n u v)))]) := by
  have n0 := h.n0
  have n1 := h.n1
  have hn : 0 < n := n0
  have s1 := mod40_sp u n n0 n1
  have s2 := mod40_sp v n n0 n1
  have hy := pr_lt hn u v
  have hl := len_pts n1
  have ed := pr_div hn u v
  have em := pr_mod hn u v
  have lu := rz_lt hn u
  have lv := rz_lt hn v
  generalize pr n u v = y at *
  generalize rz n u = u' at *
  generalize rz n v = v' at *
  refine fn_sp (C := CX) [] [] tysX_ok mixed Tryd.func46 rfl (by kernel_rfl) Tryd.ntmps46 rfl rfl ?_
  repeat' ((conv => whnf); first | refine Ob.g ?_ | refine WrOb.g ?_ | refine WrOb.u32 ?_ | refine WrOb.u64 ?_ | refine Cases.y ?_ | refine Cases.n ?_ | refine Idx.g rfl ?_ | refine Idx.z rfl ?_ | refine DrawOb.start ?_ | refine TryF.f ?_ | refine TryF.next rfl ?_ | refine TryF.other ?_ | refine TryA.g ?_ | refine TryA.next rfl ?_ | refine TryA.other ?_ | refine TryS.g ?_ | refine TryS.next rfl ?_ | refine TryS.other ?_ | refine TryG.g ?_ | refine TryG.next rfl ?_ | refine TryG.other ?_ | refine TryT.g ?_ | refine Sp.g (s1) ?_ | refine Sp.g (s2) ?_)
  refine ⟨⟨Nat, fun j => ⟨[(1, .v (.c (.sl 3 Nat (ptL n) (pt n) (pts n).length))), (2, int .i64 u'), (3, int .i64 v'), (4, .v (.c (.loc 0 0))), (10, int .i64 j)], [(0, .st [ix n, ix k, ix D])], 1⟩, fun j => j ≤ (pts n).length ∧ ∀ j', j' < j → ∀ f, f < n → Nat.gcd f n = 1 → mu n f (pt n j') ≠ y, fun j => (pts n).length - j, ⟨0, [], ⟨Nat.zero_le _, fun j' hj' => absurd hj' (Nat.not_lt_zero _)⟩, Ent.g⟩, ?_⟩⟩
  rintro j ⟨j1, hI⟩
  by_cases hj : j < (pts n).length
  · repeat' ((conv => whnf); first | refine Ob.g ?_ | refine WrOb.g ?_ | refine WrOb.u32 ?_ | refine WrOb.u64 ?_ | refine Cases.y ?_ | refine Cases.n ?_ | refine Idx.g rfl ?_ | refine Idx.z rfl ?_ | refine DrawOb.start ?_ | refine TryF.f ?_ | refine TryF.next rfl ?_ | refine TryF.other ?_ | refine TryA.g ?_ | refine TryA.next rfl ?_ | refine TryA.other ?_ | refine TryS.g ?_ | refine TryS.next rfl ?_ | refine TryS.other ?_ | refine TryG.g ?_ | refine TryG.next rfl ?_ | refine TryG.other ?_ | refine TryT.g ?_)
    refine ⟨⟨Nat, fun f => ⟨[(1, .v (.c (.sl 3 Nat (ptL n) (pt n) (pts n).length))), (2, int .i64 u'), (3, int .i64 v'), (4, .v (.c (.loc 0 0))), (10, int .i64 j), (11, int .i64 f)], [(0, .st [ix n, ix k, ix D])], 1⟩, fun f => f ≤ n ∧ ∀ g, g < f → Nat.gcd g n = 1 → mu n g (pt n j) ≠ y, fun f => n - f, ⟨0, [], ⟨Nat.zero_le _, fun g hg => absurd hg (Nat.not_lt_zero _)⟩, Ent.g⟩, ?_⟩⟩
    rintro f ⟨f1, hF⟩
    by_cases hf : f < n
    · have sg := gcd40_sp f n (by omega) (by omega)
      have sx := Chi_sp n k f D h hf
      have hpt := pt_lt hj
      have b1 : f * (pt n j / n) ≤ 120 * 120 := Nat.mul_le_mul (by omega) (by have := Nat.div_lt_of_lt_mul hpt; omega)
      have b2 : f * (pt n j % n) ≤ 120 * 120 := Nat.mul_le_mul (by omega) (by have := Nat.mod_lt (pt n j) hn; omega)
      have ea : ((f : Int) * (pt n j / n : Nat)).tmod n = ((f * (pt n j / n) % n : Nat) : Int) := by rw [← Int.natCast_mul]; exact (Int.ofNat_tmod _ _).symm
      have eb : ((f : Int) * (pt n j % n : Nat)).tmod n = ((f * (pt n j % n) % n : Nat) : Int) := by rw [← Int.natCast_mul]; exact (Int.ofNat_tmod _ _).symm
      have q1 : (f : Int) * (pt n j / n : Nat) ≤ 120 * 120 := by rw [← Int.natCast_mul]; exact_mod_cast b1
      have q2 : (f : Int) * (pt n j % n : Nat) ≤ 120 * 120 := by rw [← Int.natCast_mul]; exact_mod_cast b2
      have q1' : (0 : Int) ≤ (f : Int) * (pt n j / n : Nat) := Int.mul_nonneg (by omega) (Int.natCast_nonneg _)
      have q2' : (0 : Int) ≤ (f : Int) * (pt n j % n : Nat) := Int.mul_nonneg (by omega) (Int.natCast_nonneg _)
      have hm := mu_iff (f := f) (x := pt n j) (y := y) hn
      rw [ed, em] at hm
      have hyes := cls_yes (f := f) (y := y) h hj
      have nxt : (Nat.gcd f n = 1 → mu n f (pt n j) ≠ y) → f + 1 ≤ n ∧ ∀ g, g < f + 1 → Nat.gcd g n = 1 → mu n g (pt n j) ≠ y := fun hh => ⟨hf, fun g hg hc => by
        by_cases e : g = f
        · rw [e] at hc ⊢; exact hh hc
        · exact hF g (by omega) hc⟩
      have hdec : n - (f + 1) < n - f := by omega
      clear hI hF b1 b2
      generalize f * (pt n j / n) % n = p at *
      generalize f * (pt n j % n) % n = q at *
      by_cases hg : Nat.gcd f n = 1
      · by_cases h1 : p = u'
        · by_cases h2 : q = v'
          · obtain ⟨y1, y2⟩ := hyes hg (hm.2 ⟨h1, h2⟩)
            rw [y1, y2]
            rw [if_pos hg] at sx
            clear nxt hyes hm
            repeat' ((conv => whnf); first | (refine Idx.mk ⟨j, rfl, hj, ?_⟩) | refine Ob.g ?_ | refine WrOb.g ?_ | refine WrOb.u32 ?_ | refine WrOb.u64 ?_ | refine Cases.y ?_ | refine Cases.n ?_ | refine Idx.g rfl ?_ | refine Idx.z rfl ?_ | refine DrawOb.start ?_ | refine TryF.f ?_ | refine TryF.next rfl ?_ | refine TryF.other ?_ | refine TryA.g ?_ | refine TryA.next rfl ?_ | refine TryA.other ?_ | refine TryS.g ?_ | refine TryS.next rfl ?_ | refine TryS.other ?_ | refine TryG.g ?_ | refine TryG.next rfl ?_ | refine TryG.other ?_ | refine TryT.g ?_ | refine Sp.g (sg) ?_ | refine Sp.g (sx) ?_)
            refine ⟨⟨_, _, rfl, rfl, ?_⟩⟩
            exact AvLe.refl _
          · have nx := nxt fun _ e => h2 (hm.1 e).2
            clear nxt hyes hm
            repeat' ((conv => whnf); first | (refine Idx.mk ⟨j, rfl, hj, ?_⟩) | refine Ob.g ?_ | refine WrOb.g ?_ | refine WrOb.u32 ?_ | refine WrOb.u64 ?_ | refine Cases.y ?_ | refine Cases.n ?_ | refine Idx.g rfl ?_ | refine Idx.z rfl ?_ | refine DrawOb.start ?_ | refine TryF.f ?_ | refine TryF.next rfl ?_ | refine TryF.other ?_ | refine TryA.g ?_ | refine TryA.next rfl ?_ | refine TryA.other ?_ | refine TryS.g ?_ | refine TryS.next rfl ?_ | refine TryS.other ?_ | refine TryG.g ?_ | refine TryG.next rfl ?_ | refine TryG.other ?_ | refine TryT.g ?_ | refine Sp.g (sg) ?_)
            exact ⟨f + 1, [], nx, hdec, Ent.g⟩
        · have nx := nxt fun _ e => h1 (hm.1 e).1
          clear nxt hyes hm
          repeat' ((conv => whnf); first | (refine Idx.mk ⟨j, rfl, hj, ?_⟩) | refine Ob.g ?_ | refine WrOb.g ?_ | refine WrOb.u32 ?_ | refine WrOb.u64 ?_ | refine Cases.y ?_ | refine Cases.n ?_ | refine Idx.g rfl ?_ | refine Idx.z rfl ?_ | refine DrawOb.start ?_ | refine TryF.f ?_ | refine TryF.next rfl ?_ | refine TryF.other ?_ | refine TryA.g ?_ | refine TryA.next rfl ?_ | refine TryA.other ?_ | refine TryS.g ?_ | refine TryS.next rfl ?_ | refine TryS.other ?_ | refine TryG.g ?_ | refine TryG.next rfl ?_ | refine TryG.other ?_ | refine TryT.g ?_ | refine Sp.g (sg) ?_)
          exact ⟨f + 1, [], nx, hdec, Ent.g⟩
      · have nx := nxt fun e => absurd e hg
        clear nxt hyes hm
        repeat' ((conv => whnf); first | (refine Idx.mk ⟨j, rfl, hj, ?_⟩) | refine Ob.g ?_ | refine WrOb.g ?_ | refine WrOb.u32 ?_ | refine WrOb.u64 ?_ | refine Cases.y ?_ | refine Cases.n ?_ | refine Idx.g rfl ?_ | refine Idx.z rfl ?_ | refine DrawOb.start ?_ | refine TryF.f ?_ | refine TryF.next rfl ?_ | refine TryF.other ?_ | refine TryA.g ?_ | refine TryA.next rfl ?_ | refine TryA.other ?_ | refine TryS.g ?_ | refine TryS.next rfl ?_ | refine TryS.other ?_ | refine TryG.g ?_ | refine TryG.next rfl ?_ | refine TryG.other ?_ | refine TryT.g ?_ | refine Sp.g (sg) ?_)
        exact ⟨f + 1, [], nx, hdec, Ent.g⟩
    · obtain rfl : f = n := by omega
      have nx : j + 1 ≤ (pts f).length ∧ ∀ j', j' < j + 1 → ∀ g, g < f → Nat.gcd g f = 1 → mu f g (pt f j') ≠ y := ⟨hj, fun j' hj' => by
        by_cases e : j' = j
        · rw [e]; exact hF
        · exact hI j' (by omega)⟩
      clear hI hF
      repeat' ((conv => whnf); first | refine Ob.g ?_ | refine WrOb.g ?_ | refine WrOb.u32 ?_ | refine WrOb.u64 ?_ | refine Cases.y ?_ | refine Cases.n ?_ | refine Idx.g rfl ?_ | refine Idx.z rfl ?_ | refine DrawOb.start ?_ | refine TryF.f ?_ | refine TryF.next rfl ?_ | refine TryF.other ?_ | refine TryA.g ?_ | refine TryA.next rfl ?_ | refine TryA.other ?_ | refine TryS.g ?_ | refine TryS.next rfl ?_ | refine TryS.other ?_ | refine TryG.g ?_ | refine TryG.next rfl ?_ | refine TryG.other ?_ | refine TryT.g ?_)
      exact ⟨j + 1, [], nx, by show (pts f).length - (j + 1) < (pts f).length - j; omega, Ent.g⟩
  · obtain rfl : j = (pts n).length := by omega
    have hc := cls_no h hy hI
    rw [pIx_no hc, pSg_no hc]
    clear hI
    repeat' ((conv => whnf); first | refine Ob.g ?_ | refine WrOb.g ?_ | refine WrOb.u32 ?_ | refine WrOb.u64 ?_ | refine Cases.y ?_ | refine Cases.n ?_ | refine Idx.g rfl ?_ | refine Idx.z rfl ?_ | refine DrawOb.start ?_ | refine TryF.f ?_ | refine TryF.next rfl ?_ | refine TryF.other ?_ | refine TryA.g ?_ | refine TryA.next rfl ?_ | refine TryA.other ?_ | refine TryS.g ?_ | refine TryS.next rfl ?_ | refine TryS.other ?_ | refine TryG.g ?_ | refine TryG.next rfl ?_ | refine TryG.other ?_ | refine TryT.g ?_)
    refine ⟨⟨_, _, rfl, rfl, ?_⟩⟩
    exact AvLe.refl _
end Go.Proofs.YtedfcemebdlgfaaDoor

/- The reference's Symbol, Number, Star, walked. -/
namespace Go.Proofs.YtedfcemebdlgfaaDoor
open Go Go.RowKit Go.VG HP
theorem rSymbol_bad (L K D r : Int) (h : dchk L K D ≠ 0) : Sp CX 19 [specA L K D, int .i64 r] (.tup [.agg [ix 0, ix 0, ix 0], .c (ix (dchk L K D))]) := by
  have s := rCount_bad L K D h
  obtain ⟨e, he⟩ : ∃ e, e = dchk L K D := ⟨_, rfl⟩
  rw [← he] at s h ⊢
  refine fn_sp (C := CX) [] [] tysX_ok mixed Tryd.func19 rfl (by kernel_rfl) Tryd.ntmps19 rfl rfl ?_
  repeat' ((conv => whnf); first | refine Ob.g ?_ | refine WrOb.g ?_ | refine WrOb.u32 ?_ | refine WrOb.u64 ?_ | refine Cases.y ?_ | refine Cases.n ?_ | refine Idx.g rfl ?_ | refine Idx.z rfl ?_ | refine DrawOb.start ?_ | refine TryF.f ?_ | refine TryF.next rfl ?_ | refine TryF.other ?_ | refine TryA.g ?_ | refine TryA.next rfl ?_ | refine TryA.other ?_ | refine TryS.g ?_ | refine TryS.next rfl ?_ | refine TryS.other ?_ | refine TryG.g ?_ | refine TryG.next rfl ?_ | refine TryG.other ?_ | refine TryT.g ?_ | refine Sp.g (s) ?_)
  refine ⟨⟨_, _, rfl, rfl, ?_⟩⟩
  exact AvLe.refl _
theorem rSymbol_out (n k : Nat) (D r : Int) (h : DOk n k D) (hr : ¬ (0 ≤ r ∧ r < ((k - 2 + 1) * (pts n).length : Nat))) : Sp CX 19 [specA n k D, int .i64 r] (.tup [.agg [ix 0, ix 0, ix 0], .c (ix 2)]) := by
  have s := rCount_ok n k D h
  generalize (k - 2 + 1) * (pts n).length = c at *
  by_cases h0 : r < 0
  · refine fn_sp (C := CX) [] [] tysX_ok mixed Tryd.func19 rfl (by kernel_rfl) Tryd.ntmps19 rfl rfl ?_
    repeat' ((conv => whnf); first | refine Ob.g ?_ | refine WrOb.g ?_ | refine WrOb.u32 ?_ | refine WrOb.u64 ?_ | refine Cases.y ?_ | refine Cases.n ?_ | refine Idx.g rfl ?_ | refine Idx.z rfl ?_ | refine DrawOb.start ?_ | refine TryF.f ?_ | refine TryF.next rfl ?_ | refine TryF.other ?_ | refine TryA.g ?_ | refine TryA.next rfl ?_ | refine TryA.other ?_ | refine TryS.g ?_ | refine TryS.next rfl ?_ | refine TryS.other ?_ | refine TryG.g ?_ | refine TryG.next rfl ?_ | refine TryG.other ?_ | refine TryT.g ?_ | refine Sp.g (s) ?_)
    refine ⟨⟨_, _, rfl, rfl, ?_⟩⟩
    exact AvLe.refl _
  · have h1 : (c : Int) ≤ r := by omega
    refine fn_sp (C := CX) [] [] tysX_ok mixed Tryd.func19 rfl (by kernel_rfl) Tryd.ntmps19 rfl rfl ?_
    repeat' ((conv => whnf); first | refine Ob.g ?_ | refine WrOb.g ?_ | refine WrOb.u32 ?_ | refine WrOb.u64 ?_ | refine Cases.y ?_ | refine Cases.n ?_ | refine Idx.g rfl ?_ | refine Idx.z rfl ?_ | refine DrawOb.start ?_ | refine TryF.f ?_ | refine TryF.next rfl ?_ | refine TryF.other ?_ | refine TryA.g ?_ | refine TryA.next rfl ?_ | refine TryA.other ?_ | refine TryS.g ?_ | refine TryS.next rfl ?_ | refine TryS.other ?_ | refine TryG.g ?_ | refine TryG.next rfl ?_ | refine TryG.other ?_ | refine TryT.g ?_ | refine Sp.g (s) ?_)
    refine ⟨⟨_, _, rfl, rfl, ?_⟩⟩
    exact AvLe.refl _
def msyV (n r : Nat) : V1 := .agg [ix (r / (pts n).length : Nat), ix (pt n (r % (pts n).length) / n : Nat), ix (pt n (r % (pts n).length) % n : Nat)]
set_option maxHeartbeats 8000000 in
set_option maxRecDepth 20000 in
theorem rSymbol_ok (n k r : Nat) (D : Int) (h : DOk n k D) (hr : r < (k - 2 + 1) * (pts n).length) : Sp CX 19 [specA n k D, int .i64 r] (.tup [msyV n r, .c (ix 0)]) := by
  have s := rCount_ok n k D h
  have s3 := rList_sp n h.n0 h.n1
  have hc := mcnt_le (w := k - 2) h.n1 (by have := h.k1; omega)
  have hl0 : 0 < (pts n).length := Nat.pos_of_ne_zero fun e => by rw [e, Nat.mul_zero] at hr; omega
  generalize (k - 2 + 1) * (pts n).length = c at *
  have hl := len_pts h.n1
  have e1 : (r : Int).tmod (pts n).length = ((r % (pts n).length : Nat) : Int) := (Int.ofNat_tmod _ _).symm
  have e2 : (r : Int).tdiv (pts n).length = ((r / (pts n).length : Nat) : Int) := (Int.ofNat_tdiv _ _).symm
  have hj := Nat.mod_lt r hl0
  refine fn_sp (C := CX) [] [] tysX_ok mixed Tryd.func19 rfl (by kernel_rfl) Tryd.ntmps19 rfl rfl ?_
  repeat' ((conv => whnf); first | (refine Idx.mk ⟨r % (pts n).length, by omega, hj, ?_⟩) | refine Ob.g ?_ | refine WrOb.g ?_ | refine WrOb.u32 ?_ | refine WrOb.u64 ?_ | refine Cases.y ?_ | refine Cases.n ?_ | refine Idx.g rfl ?_ | refine Idx.z rfl ?_ | refine DrawOb.start ?_ | refine TryF.f ?_ | refine TryF.next rfl ?_ | refine TryF.other ?_ | refine TryA.g ?_ | refine TryA.next rfl ?_ | refine TryA.other ?_ | refine TryS.g ?_ | refine TryS.next rfl ?_ | refine TryS.other ?_ | refine TryG.g ?_ | refine TryG.next rfl ?_ | refine TryG.other ?_ | refine TryT.g ?_ | refine Sp.g (s) ?_ | refine Sp.g (s3) ?_)
  refine ⟨⟨_, _, rfl, rfl, ?_⟩⟩
  exact AvLe.refl _
theorem rNumber_bad (L K D i u v : Int) (h : dchk L K D ≠ 0) : Sp CX 15 [specA L K D, manA i u v] (.tup [.c (ix 0), .c (ix 0), .c (ix (dchk L K D))]) := by
  have s := checkr_sp L K D
  obtain ⟨e, he⟩ : ∃ e, e = dchk L K D := ⟨_, rfl⟩
  rw [← he] at s h ⊢
  refine fn_sp (C := CX) [] [] tysX_ok mixed Tryd.func15 rfl (by kernel_rfl) Tryd.ntmps15 rfl rfl ?_
  repeat' ((conv => whnf); first | refine Ob.g ?_ | refine WrOb.g ?_ | refine WrOb.u32 ?_ | refine WrOb.u64 ?_ | refine Cases.y ?_ | refine Cases.n ?_ | refine Idx.g rfl ?_ | refine Idx.z rfl ?_ | refine DrawOb.start ?_ | refine TryF.f ?_ | refine TryF.next rfl ?_ | refine TryF.other ?_ | refine TryA.g ?_ | refine TryA.next rfl ?_ | refine TryA.other ?_ | refine TryS.g ?_ | refine TryS.next rfl ?_ | refine TryS.other ?_ | refine TryG.g ?_ | refine TryG.next rfl ?_ | refine TryG.other ?_ | refine TryT.g ?_ | refine Sp.g (s) ?_)
  refine ⟨⟨_, _, rfl, rfl, ?_⟩⟩
  exact AvLe.refl _
theorem rNumber_out (n k : Nat) (D i u v : Int) (h : DOk n k D) (hi : ¬ (0 ≤ i ∧ i ≤ (k - 2 : Nat))) : Sp CX 15 [specA n k D, manA i u v] (.tup [.c (ix 0), .c (ix 0), .c (ix 2)]) := by
  have s := checkr_sp n k D
  rw [h.chk] at s
  have hk0 := h.k0
  have hk1 := h.k1
  by_cases h0 : i < 0
  · refine fn_sp (C := CX) [] [] tysX_ok mixed Tryd.func15 rfl (by kernel_rfl) Tryd.ntmps15 rfl rfl ?_
    repeat' ((conv => whnf); first | refine Ob.g ?_ | refine WrOb.g ?_ | refine WrOb.u32 ?_ | refine WrOb.u64 ?_ | refine Cases.y ?_ | refine Cases.n ?_ | refine Idx.g rfl ?_ | refine Idx.z rfl ?_ | refine DrawOb.start ?_ | refine TryF.f ?_ | refine TryF.next rfl ?_ | refine TryF.other ?_ | refine TryA.g ?_ | refine TryA.next rfl ?_ | refine TryA.other ?_ | refine TryS.g ?_ | refine TryS.next rfl ?_ | refine TryS.other ?_ | refine TryG.g ?_ | refine TryG.next rfl ?_ | refine TryG.other ?_ | refine TryT.g ?_ | refine Sp.g (s) ?_)
    refine ⟨⟨_, _, rfl, rfl, ?_⟩⟩
    exact AvLe.refl _
  · have h1 : (k : Int) - 2 < i := by omega
    refine fn_sp (C := CX) [] [] tysX_ok mixed Tryd.func15 rfl (by kernel_rfl) Tryd.ntmps15 rfl rfl ?_
    repeat' ((conv => whnf); first | refine Ob.g ?_ | refine WrOb.g ?_ | refine WrOb.u32 ?_ | refine WrOb.u64 ?_ | refine Cases.y ?_ | refine Cases.n ?_ | refine Idx.g rfl ?_ | refine Idx.z rfl ?_ | refine DrawOb.start ?_ | refine TryF.f ?_ | refine TryF.next rfl ?_ | refine TryF.other ?_ | refine TryA.g ?_ | refine TryA.next rfl ?_ | refine TryA.other ?_ | refine TryS.g ?_ | refine TryS.next rfl ?_ | refine TryS.other ?_ | refine TryG.g ?_ | refine TryG.next rfl ?_ | refine TryG.other ?_ | refine TryT.g ?_ | refine Sp.g (s) ?_)
    refine ⟨⟨_, _, rfl, rfl, ?_⟩⟩
    exact AvLe.refl _
theorem rNumber_no (n k i : Nat) (D u v : Int) (h : DOk n k D) (hi : i ≤ k - 2) (hp : pSg n D (pr n u v) = 0) : Sp CX 15 [specA n k D, manA i u v] (.tup [.c (ix 0), .c (ix 0), .c (ix 12)]) := by
  have s := checkr_sp n k D
  rw [h.chk] at s
  have s2 := class_sp n k D u v h
  have s3 := rList_sp n h.n0 h.n1
  have hk0 := h.k0
  have hk1 := h.k1
  refine fn_sp (C := CX) [] [] tysX_ok mixed Tryd.func15 rfl (by kernel_rfl) Tryd.ntmps15 rfl rfl ?_
  repeat' ((conv => whnf); first | refine Ob.g ?_ | refine WrOb.g ?_ | refine WrOb.u32 ?_ | refine WrOb.u64 ?_ | refine Cases.y ?_ | refine Cases.n ?_ | refine Idx.g rfl ?_ | refine Idx.z rfl ?_ | refine DrawOb.start ?_ | refine TryF.f ?_ | refine TryF.next rfl ?_ | refine TryF.other ?_ | refine TryA.g ?_ | refine TryA.next rfl ?_ | refine TryA.other ?_ | refine TryS.g ?_ | refine TryS.next rfl ?_ | refine TryS.other ?_ | refine TryG.g ?_ | refine TryG.next rfl ?_ | refine TryG.other ?_ | refine TryT.g ?_ | refine Sp.g (s) ?_ | refine Sp.g (s3) ?_ | refine Sp.g (s2) ?_)
  refine ⟨⟨_, _, rfl, rfl, ?_⟩⟩
  exact AvLe.refl _
theorem rNumber_ok (n k i : Nat) (D u v : Int) (h : DOk n k D) (hi : i ≤ k - 2) (hp : pSg n D (pr n u v) ≠ 0) : Sp CX 15 [specA n k D, manA i u v] (.tup [.c (ix (i * (pts n).length + pIx n (pr n u v) : Nat)), .c (ix (pSg n D (pr n u v))), .c (ix 0)]) := by
  have s := checkr_sp n k D
  rw [h.chk] at s
  have s2 := class_sp n k D u v h
  have s3 := rList_sp n h.n0 h.n1
  have hl := len_pts h.n1
  have hq := pIx_le h.n0 (pr_lt (show 0 < n by have := h.n0; omega) u v)
  have hk0 := h.k0
  have hk1 := h.k1
  have hb : i * (pts n).length ≤ 22 * 14400 := Nat.mul_le_mul (by omega) hl
  have e : ((i * (pts n).length + pIx n (pr n u v) : Nat) : Int) = (i : Int) * (pts n).length + (pIx n (pr n u v) : Nat) := by rw [Int.natCast_add, Int.natCast_mul]
  have e1 : (i : Int) * (pts n).length ≤ 22 * 14400 := by rw [← Int.natCast_mul]; omega
  have e2 : 0 ≤ (i : Int) * (pts n).length := Int.mul_nonneg (by omega) (by omega)
  rw [e]
  refine fn_sp (C := CX) [] [] tysX_ok mixed Tryd.func15 rfl (by kernel_rfl) Tryd.ntmps15 rfl rfl ?_
  repeat' ((conv => whnf); first | refine Ob.g ?_ | refine WrOb.g ?_ | refine WrOb.u32 ?_ | refine WrOb.u64 ?_ | refine Cases.y ?_ | refine Cases.n ?_ | refine Idx.g rfl ?_ | refine Idx.z rfl ?_ | refine DrawOb.start ?_ | refine TryF.f ?_ | refine TryF.next rfl ?_ | refine TryF.other ?_ | refine TryA.g ?_ | refine TryA.next rfl ?_ | refine TryA.other ?_ | refine TryS.g ?_ | refine TryS.next rfl ?_ | refine TryS.other ?_ | refine TryG.g ?_ | refine TryG.next rfl ?_ | refine TryG.other ?_ | refine TryT.g ?_ | refine Sp.g (s) ?_ | refine Sp.g (s3) ?_ | refine Sp.g (s2) ?_)
  refine ⟨⟨_, _, rfl, rfl, ?_⟩⟩
  exact AvLe.refl _
theorem rStar_bad (L K D r : Int) (h : dchk L K D ≠ 0) : Sp CX 24 [specA L K D, int .i64 r] (.tup [.c (ix 0), .c (ix 0), .c (ix (dchk L K D))]) := by
  have s := rSymbol_bad L K D r h
  obtain ⟨e, he⟩ : ∃ e, e = dchk L K D := ⟨_, rfl⟩
  rw [← he] at s h ⊢
  refine fn_sp (C := CX) [] [] tysX_ok mixed Tryd.func24 rfl (by kernel_rfl) Tryd.ntmps24 rfl rfl ?_
  repeat' ((conv => whnf); first | refine Ob.g ?_ | refine WrOb.g ?_ | refine WrOb.u32 ?_ | refine WrOb.u64 ?_ | refine Cases.y ?_ | refine Cases.n ?_ | refine Idx.g rfl ?_ | refine Idx.z rfl ?_ | refine DrawOb.start ?_ | refine TryF.f ?_ | refine TryF.next rfl ?_ | refine TryF.other ?_ | refine TryA.g ?_ | refine TryA.next rfl ?_ | refine TryA.other ?_ | refine TryS.g ?_ | refine TryS.next rfl ?_ | refine TryS.other ?_ | refine TryG.g ?_ | refine TryG.next rfl ?_ | refine TryG.other ?_ | refine TryT.g ?_ | refine Sp.g (s) ?_)
  refine ⟨⟨_, _, rfl, rfl, ?_⟩⟩
  exact AvLe.refl _
theorem rStar_out (n k : Nat) (D r : Int) (h : DOk n k D) (hr : ¬ (0 ≤ r ∧ r < ((k - 2 + 1) * (pts n).length : Nat))) : Sp CX 24 [specA n k D, int .i64 r] (.tup [.c (ix 0), .c (ix 0), .c (ix 2)]) := by
  have s := rSymbol_out n k D r h hr
  refine fn_sp (C := CX) [] [] tysX_ok mixed Tryd.func24 rfl (by kernel_rfl) Tryd.ntmps24 rfl rfl ?_
  repeat' ((conv => whnf); first | refine Ob.g ?_ | refine WrOb.g ?_ | refine WrOb.u32 ?_ | refine WrOb.u64 ?_ | refine Cases.y ?_ | refine Cases.n ?_ | refine Idx.g rfl ?_ | refine Idx.z rfl ?_ | refine DrawOb.start ?_ | refine TryF.f ?_ | refine TryF.next rfl ?_ | refine TryF.other ?_ | refine TryA.g ?_ | refine TryA.next rfl ?_ | refine TryA.other ?_ | refine TryS.g ?_ | refine TryS.next rfl ?_ | refine TryS.other ?_ | refine TryG.g ?_ | refine TryG.next rfl ?_ | refine TryG.other ?_ | refine TryT.g ?_ | refine Sp.g (s) ?_)
  refine ⟨⟨_, _, rfl, rfl, ?_⟩⟩
  exact AvLe.refl _
set_option maxHeartbeats 16000000 in
set_option maxRecDepth 20000 in
theorem rStar_ok (n k r : Nat) (D : Int) (h : DOk n k D) (hr : r < (k - 2 + 1) * (pts n).length) : Sp CX 24 [specA n k D, int .i64 r] (.tup [.c (ix (HP.stI n r)), .c (ix (HP.stS n D r)), .c (ix 0)]) := by
  have s := rSymbol_ok n k r D h hr
  have hl0 : 0 < (pts n).length := Nat.pos_of_ne_zero fun e => by rw [e, Nat.mul_zero] at hr; omega
  have hrl : r / (pts n).length < k - 2 + 1 := Nat.div_lt_of_lt_mul (by rw [Nat.mul_comm]; exact hr)
  have hk1 := h.k1
  have hn0 := h.n0
  have hn1 := h.n1
  have hj := Nat.mod_lt r hl0
  have hpt := pt_lt hj
  have hu1 : 0 ≤ ((pt n (r % (pts n).length) / n : Nat) : Int) ∧ ((pt n (r % (pts n).length) / n : Nat) : Int) < n := ⟨Int.natCast_nonneg _, by exact_mod_cast Nat.div_lt_of_lt_mul hpt⟩
  have hcop := acP_star_cop (show 0 < n by omega) hpt (pt_cop hj)
  have hy := acP_lt (show 0 < n by omega) (pt n (r % (pts n).length)) (-1) 0 0 1
  have s2 := rNumber_ok n k (r / (pts n).length) D (-((pt n (r % (pts n).length) / n : Nat) : Int)) ((pt n (r % (pts n).length) % n : Nat) : Int) h (by omega) (by
    rw [← acP_st]
    rcases pSg_cases h hy with ⟨_, h | h⟩ | ⟨h, _⟩
    · omega
    · omega
    · rw [hcop] at h; cases h)
  rw [← acP_st] at s2
  have hsg : -1 ≤ pSg n D (acP n (pt n (r % (pts n).length)) (-1) 0 0 1) ∧ pSg n D (acP n (pt n (r % (pts n).length)) (-1) 0 0 1) ≤ 1 := by rcases pSg_cases h hy with ⟨_, h | h⟩ | ⟨_, h⟩ <;> omega
  unfold HP.stI HP.stS
  rw [pow_neg_one]
  unfold msyV at s
  generalize acP n (pt n (r % (pts n).length)) (-1) 0 0 1 = y at *
  have em2 : ((r / (pts n).length : Nat) : Int).tmod 2 = ((r / (pts n).length % 2 : Nat) : Int) := (Int.ofNat_tmod _ 2).symm
  by_cases h2 : r / (pts n).length % 2 = 0
  · rw [h2] at em2
    have em3 : ((r / (pts n).length : Nat) : Int).tmod 2 ≠ 1 := by rw [em2]; decide
    rw [if_pos h2, Int.mul_one]
    refine fn_sp (C := CX) [] [] tysX_ok mixed Tryd.func24 rfl (by kernel_rfl) Tryd.ntmps24 rfl rfl ?_
    repeat' ((conv => whnf); first | refine Ob.g ?_ | refine WrOb.g ?_ | refine WrOb.u32 ?_ | refine WrOb.u64 ?_ | refine Cases.y ?_ | refine Cases.n ?_ | refine Idx.g rfl ?_ | refine Idx.z rfl ?_ | refine DrawOb.start ?_ | refine TryF.f ?_ | refine TryF.next rfl ?_ | refine TryF.other ?_ | refine TryA.g ?_ | refine TryA.next rfl ?_ | refine TryA.other ?_ | refine TryS.g ?_ | refine TryS.next rfl ?_ | refine TryS.other ?_ | refine TryG.g ?_ | refine TryG.next rfl ?_ | refine TryG.other ?_ | refine TryT.g ?_ | refine Sp.g (s) ?_ | refine Sp.g (s2) ?_)
    refine ⟨⟨_, _, rfl, rfl, ?_⟩⟩
    exact AvLe.refl _
  · rw [show r / (pts n).length % 2 = 1 by omega] at em2
    have em3 : ((r / (pts n).length : Nat) : Int).tmod 2 = 1 := by rw [em2]; rfl
    rw [if_neg h2, Int.mul_neg, Int.mul_one]
    refine fn_sp (C := CX) [] [] tysX_ok mixed Tryd.func24 rfl (by kernel_rfl) Tryd.ntmps24 rfl rfl ?_
    repeat' ((conv => whnf); first | refine Ob.g ?_ | refine WrOb.g ?_ | refine WrOb.u32 ?_ | refine WrOb.u64 ?_ | refine Cases.y ?_ | refine Cases.n ?_ | refine Idx.g rfl ?_ | refine Idx.z rfl ?_ | refine DrawOb.start ?_ | refine TryF.f ?_ | refine TryF.next rfl ?_ | refine TryF.other ?_ | refine TryA.g ?_ | refine TryA.next rfl ?_ | refine TryA.other ?_ | refine TryS.g ?_ | refine TryS.next rfl ?_ | refine TryS.other ?_ | refine TryG.g ?_ | refine TryG.next rfl ?_ | refine TryG.other ?_ | refine TryT.g ?_ | refine Sp.g (s) ?_ | refine Sp.g (s2) ?_)
    refine ⟨⟨_, _, rfl, rfl, ?_⟩⟩
    exact AvLe.refl _
end Go.Proofs.YtedfcemebdlgfaaDoor

/- The reference's times, Moved, walked. -/
namespace Go.VG
open Go Go.RowKit
/-- a row that a call made and that is written no more -/
theorem SpR.frz {C : Ctx} {f : FuncId} {args : List AV} {k : Nat} {e : TypeId} {α : Type} {mk : α → Nat → Leaf} {Z : Nat → α} {n : Nat} (h : SpR C f args k e α mk Z n) : Sp C f args (.v (.c (.sl k α mk Z n))) :=
  ⟨h.ok, rfl, fun O w vs h1 h2 h3 => (h.w O w vs h1 h2 h3).mono fun en w' ⟨v, he, hb, hv⟩ => ⟨v, he, hb, fun ρ' w'' hx => by
    rcases hv with ⟨rfl, rfl⟩ | ⟨g, cap, c, rfl, hg, hc, hle, _, hsz, _, hcell⟩
    · exact ⟨rfl, none, 0, rfl, Nat.le_refl _, fun _ => rfl, fun _ _ _ q => by cases q⟩
    · have hlt : g < w'.heap.size := (Array.getElem?_eq_some_iff.1 hc).1
      have hno : ¬ O g := fun ho => by have := (h1 g ho).1; omega
      have hk := hx.keep g hlt hno
      refine ⟨rfl, some ⟨g, 0, none⟩, cap, rfl, hle, fun q => by (cases q), fun g' off sp q => ?_⟩
      cases q
      refine ⟨rfl, fun i j hi hj => ?_⟩
      obtain ⟨pp, x, x1, x2, x3⟩ := hcell i j hi hj
      refine ⟨x, ?_, x2, fun ρ'' => pureL_at pp (x3 ρ' w'' ⟨hx.size, fun q hq hm => hx.keep q hq fun ho => hm (.inl ho)⟩)⟩
      have hc2 : w''.heap[g]? = some (.cells c e (0, 0)) := hk.trans hc
      simp only [World.cell?, hc2]
      simpa using x1⟩⟩
end Go.VG
namespace Go.Proofs.YtedfcemebdlgfaaDoor
open Go Go.RowKit Go.VG HP
def ixL (z : Int) (_ : Nat) : Leaf := ix z
theorem mk_ix (m : Nat) : ∀ i j, i < m → j < 1 → (fun (z : Int) (_ : Nat) => (ix z : Leaf)) ((fun _ : Nat => (0 : Int)) i) j = .x (([.int .i64 0] : List Value).getD j undef) := fun i j _ hj => by
  obtain rfl : j = 0 := by omega
  rfl
/-- the polynomial, so far -/
def tmj (C : Nat → Int) (a b : Int) (j m : Nat) : Int := (if m < j then C m * b else 0) + (if 1 ≤ m ∧ m ≤ j then C (m - 1) * a else 0)
theorem tmj_start (C : Nat → Int) (a b : Int) (m : Nat) : tmj C a b 0 m = 0 := by
  unfold tmj
  rw [if_neg (by omega), if_neg (by omega)]
  rfl
theorem tmj_end {C : Nat → Int} {a b : Int} {q m : Nat} (h0 : C q = 0) (hm : m < q + 1) : tmj C a b q m = tmp C a b m := by
  unfold tmj
  cases m with
  | zero =>
    rw [if_neg (show ¬ (1 ≤ 0 ∧ 0 ≤ q) by omega), Int.add_zero]
    show _ = b * C 0
    by_cases h : 0 < q
    · rw [if_pos h, Int.mul_comm]
    · rw [if_neg h, show C 0 = 0 by rw [← h0]; congr 1; omega, Int.mul_zero]
  | succ m =>
    show _ = a * C m + b * C (m + 1)
    rw [if_pos (show 1 ≤ m + 1 ∧ m + 1 ≤ q by omega), Nat.add_sub_cancel, Int.mul_comm a, Int.mul_comm b]
    by_cases h : m + 1 < q
    · rw [if_pos h, Int.add_comm]
    · rw [if_neg h, show C (m + 1) = 0 by rw [← h0]; congr 1; omega, Int.zero_mul, Int.zero_add, Int.add_zero]
theorem tmj_step {C : Nat → Int} {a b : Int} {q j : Nat} (hj : j < q) {H : Nat → Int} (hH : ∀ m, m < q + 1 → H m = tmj C a b j m) :
    ∀ m, m < q + 1 → setZ Int (setZ Int H j (H j + C j * b)) (j + 1) (setZ Int H j (H j + C j * b) (j + 1) + C j * a) m = tmj C a b (j + 1) m := fun m hm => by
  have e1 : tmj C a b j (j + 1) = 0 := by
    unfold tmj
    rw [if_neg (by omega), if_neg (by omega)]
    rfl
  have e2 : setZ Int H j (H j + C j * b) (j + 1) = 0 := by
    unfold setZ
    rw [if_neg (by omega), hH _ (by omega), e1]
  rw [e2, Int.zero_add]
  unfold setZ
  by_cases h1 : m = j + 1
  · subst h1
    rw [if_pos rfl]
    unfold tmj
    rw [if_neg (by omega), if_pos (by omega), Int.zero_add, Nat.add_sub_cancel]
  · rw [if_neg h1]
    by_cases h2 : m = j
    · subst h2
      rw [if_pos rfl, hH _ hm]
      unfold tmj
      rw [if_neg (by omega), if_pos (show m < m + 1 by omega), Int.zero_add]
      by_cases h3 : 1 ≤ m
      · rw [if_pos ⟨h3, by omega⟩, if_pos ⟨h3, by omega⟩, Int.add_comm]
      · rw [if_neg (by omega), if_neg (by omega), Int.zero_add, Int.add_zero]
    · rw [if_neg h2, hH _ hm]
      unfold tmj
      by_cases h3 : m < j
      · rw [if_pos h3, if_pos (show m < j + 1 by omega)]
        by_cases h4 : 1 ≤ m
        · rw [if_pos ⟨h4, by omega⟩, if_pos ⟨h4, by omega⟩]
        · rw [if_neg (by omega), if_neg (by omega)]
      · rw [if_neg h3, if_neg (show ¬ m < j + 1 by omega), if_neg (by omega), if_neg (by omega)]
theorem tmj_ln {C : Nat → Int} {a b : Int} {j m B A : Nat} (hC : ∀ i, (C i).natAbs ≤ B) (ha : a.natAbs ≤ A) (hb : b.natAbs ≤ A) : (tmj C a b j m).natAbs ≤ 2 * (B * A) := by
  have h : ∀ (x : Int) i, x.natAbs ≤ A → (C i * x).natAbs ≤ B * A := fun x i hx => by rw [Int.natAbs_mul]; exact Nat.mul_le_mul (hC i) hx
  have h1 := h b m hb
  have h2 := h a (m - 1) ha
  unfold tmj
  split <;> split
  · have := Int.natAbs_add_le (C m * b) (C (m - 1) * a); omega
  · rw [Int.add_zero]; omega
  · rw [Int.zero_add]; omega
  · exact Nat.zero_le _
set_option maxHeartbeats 16000000 in
set_option maxRecDepth 20000 in
theorem rtimes_sp (C : Nat → Int) (q : Nat) (a b : Int) (q1 : q ≤ 1000) (hC0 : C q = 0) (hC : ∀ i, ln (C i).natAbs ≤ 1000) (hT : ∀ j m, ln (tmj C a b j m).natAbs ≤ 2000) (ha0 : -9223372036854775808 ≤ a) (ha1 : a ≤ 9223372036854775807) (hb0 : -9223372036854775808 ≤ b) (hb1 : b ≤ 9223372036854775807) : Sp CX 78 [zsA C q, int .i64 a, int .i64 b] (zsA (tmp C a b) (q + 1)) := by
  have s0 := Zs_sp (fun _ => 0) (q + 1) (by omega) (fun _ _ => by omega) (fun _ _ => by omega)
  have za := Z_sp a ha0 ha1
  have zb := Z_sp b hb0 hb1
  have la : ln a.natAbs ≤ 2 := ln_two (by omega)
  have lb : ln b.natAbs ≤ 2 := ln_two (by omega)
  have lm : ∀ x y : Int, ln x.natAbs ≤ 1000 → ln y.natAbs ≤ 2 → ln (x * y).natAbs ≤ 1002 := fun x y hx hy => by
    rw [Int.natAbs_mul]
    have := ln_mul x.natAbs y.natAbs
    omega
  refine fn_sp (C := CX) [] [1] tysX_ok mixed Tryd.func78 rfl (by kernel_rfl) Tryd.ntmps78 rfl rfl ?_
  repeat' ((conv => whnf); first | (refine Ob.mk ⟨rfl, by omega, by decide⟩ ?_) | refine Ob.g ?_ | refine WrOb.g ?_ | refine WrOb.u32 ?_ | refine WrOb.u64 ?_ | refine Cases.y ?_ | refine Cases.n ?_ | refine Idx.g rfl ?_ | refine Idx.z rfl ?_ | refine DrawOb.start ?_ | refine TryF.f ?_ | refine TryF.next rfl ?_ | refine TryF.other ?_ | refine TryA.g ?_ | refine TryA.next rfl ?_ | refine TryA.other ?_ | refine TryS.g ?_ | refine TryS.next rfl ?_ | refine TryS.other ?_ | refine TryG.g ?_ | refine TryG.next rfl ?_ | refine TryG.other ?_ | refine TryT.g ?_)
  refine ⟨⟨Int, fun z _ => ix z, fun _ => 0, q + 1, by push_cast; rfl, mk_ix _, ?_⟩⟩
  repeat' ((conv => whnf); first | refine Ob.g ?_ | refine WrOb.g ?_ | refine WrOb.u32 ?_ | refine WrOb.u64 ?_ | refine Cases.y ?_ | refine Cases.n ?_ | refine Idx.g rfl ?_ | refine Idx.z rfl ?_ | refine DrawOb.start ?_ | refine TryF.f ?_ | refine TryF.next rfl ?_ | refine TryF.other ?_ | refine TryA.g ?_ | refine TryA.next rfl ?_ | refine TryA.other ?_ | refine TryS.g ?_ | refine TryS.next rfl ?_ | refine TryS.other ?_ | refine TryG.g ?_ | refine TryG.next rfl ?_ | refine TryG.other ?_ | refine TryT.g ?_ | refine SpR.call (s0) (ArgsLe.refl _) rfl rfl ?_)
  refine ⟨⟨Nat × (Nat → Int), fun (j, H) => ⟨[(0, zsA C q), (1, int .i64 a), (2, int .i64 b), (7, .v (.c (.row 1))), (8, int .i64 j)], [(1, .rw 2 69 false Int zL H (q + 1))], 2⟩, fun (j, H) => j ≤ q ∧ ∀ m, m < q + 1 → H m = tmj C a b j m, fun (j, _) => q - j, ⟨(0, fun _ => 0), [], ⟨Nat.zero_le _, fun m _ => (tmj_start C a b m).symm⟩, Ent.g⟩, ?_⟩⟩
  rintro ⟨j, H⟩ ⟨j1, hH⟩
  by_cases hj : j < q
  · have hn := tmj_step hj hH
    have m1 := rMul_sp (C j) b (by have := hC j; omega) (by omega)
    have m2 := rMul_sp (C j) a (by have := hC j; omega) (by omega)
    have hl1 : ln (H j).natAbs ≤ 2000 := by rw [hH j (by omega)]; exact hT j j
    have e2 : setZ Int H j (H j + C j * b) (j + 1) = H (j + 1) := by unfold setZ; rw [if_neg (by omega)]
    have hl2 : ln (setZ Int H j (H j + C j * b) (j + 1)).natAbs ≤ 2000 := by rw [e2, hH _ (by omega)]; exact hT j (j + 1)
    have p1 := rAdd_sp (H j) (C j * b) (by omega) (by have := lm _ b (hC j) lb; omega)
    have p2 := rAdd_sp (setZ Int H j (H j + C j * b) (j + 1)) (C j * a) (by omega) (by have := lm _ a (hC j) la; omega)
    clear hH hl1 hl2 e2
    repeat' ((conv => whnf); first | (refine Idx.mk ⟨j, rfl, by omega, ?_⟩) | refine Ob.g ?_ | refine WrOb.g ?_ | refine WrOb.u32 ?_ | refine WrOb.u64 ?_ | refine Cases.y ?_ | refine Cases.n ?_ | refine Idx.g rfl ?_ | refine Idx.z rfl ?_ | refine DrawOb.start ?_ | refine TryF.f ?_ | refine TryF.next rfl ?_ | refine TryF.other ?_ | refine TryA.g ?_ | refine TryA.next rfl ?_ | refine TryA.other ?_ | refine TryS.g ?_ | refine TryS.next rfl ?_ | refine TryS.other ?_ | refine TryG.g ?_ | refine TryG.next rfl ?_ | refine TryG.other ?_ | refine TryT.g ?_ | refine Sp.g (zb) ?_ | refine Sp.g (m1) ?_ | refine Sp.g (p1) ?_)
    refine ⟨⟨H j + C j * b, rfl, ?_⟩⟩
    repeat' ((conv => whnf); first | (refine Idx.mk ⟨j, rfl, by omega, ?_⟩) | (refine Idx.mk ⟨j + 1, rfl, by omega, ?_⟩) | refine Ob.g ?_ | refine WrOb.g ?_ | refine WrOb.u32 ?_ | refine WrOb.u64 ?_ | refine Cases.y ?_ | refine Cases.n ?_ | refine Idx.g rfl ?_ | refine Idx.z rfl ?_ | refine DrawOb.start ?_ | refine TryF.f ?_ | refine TryF.next rfl ?_ | refine TryF.other ?_ | refine TryA.g ?_ | refine TryA.next rfl ?_ | refine TryA.other ?_ | refine TryS.g ?_ | refine TryS.next rfl ?_ | refine TryS.other ?_ | refine TryG.g ?_ | refine TryG.next rfl ?_ | refine TryG.other ?_ | refine TryT.g ?_ | refine Sp.g (za) ?_ | refine Sp.g (m2) ?_ | refine Sp.g (p2) ?_)
    refine ⟨⟨setZ Int H j (H j + C j * b) (j + 1) + C j * a, rfl, ?_⟩⟩
    repeat' ((conv => whnf); first | refine Ob.g ?_ | refine WrOb.g ?_ | refine WrOb.u32 ?_ | refine WrOb.u64 ?_ | refine Cases.y ?_ | refine Cases.n ?_ | refine Idx.g rfl ?_ | refine Idx.z rfl ?_ | refine DrawOb.start ?_ | refine TryF.f ?_ | refine TryF.next rfl ?_ | refine TryF.other ?_ | refine TryA.g ?_ | refine TryA.next rfl ?_ | refine TryA.other ?_ | refine TryS.g ?_ | refine TryS.next rfl ?_ | refine TryS.other ?_ | refine TryG.g ?_ | refine TryG.next rfl ?_ | refine TryG.other ?_ | refine TryT.g ?_)
    exact ⟨(j + 1, _), [], ⟨hj, hn⟩, by show q - (j + 1) < q - j; omega, Ent.g⟩
  · obtain rfl : j = q := by omega
    repeat' ((conv => whnf); first | refine Ob.g ?_ | refine WrOb.g ?_ | refine WrOb.u32 ?_ | refine WrOb.u64 ?_ | refine Cases.y ?_ | refine Cases.n ?_ | refine Idx.g rfl ?_ | refine Idx.z rfl ?_ | refine DrawOb.start ?_ | refine TryF.f ?_ | refine TryF.next rfl ?_ | refine TryF.other ?_ | refine TryA.g ?_ | refine TryA.next rfl ?_ | refine TryA.other ?_ | refine TryS.g ?_ | refine TryS.next rfl ?_ | refine TryS.other ?_ | refine TryG.g ?_ | refine TryG.next rfl ?_ | refine TryG.other ?_ | refine TryT.g ?_)
    refine ⟨⟨_, _, rfl, rfl, ?_⟩⟩
    exact .leaf (.sl fun i j hi _ => by rw [hH i hi, tmj_end hC0 hi]; exact .refl _)
end Go.Proofs.YtedfcemebdlgfaaDoor

/- The reference's Moved and Apply, walked. -/
namespace Go.Proofs.YtedfcemebdlgfaaDoor
open Go Go.RowKit Go.VG HP
theorem plm_tmj_ln {i : Nat} {a b c d x y : Int} (h : MOk a b c d) (hx : x.natAbs ≤ 1073741824) (hy : y.natAbs ≤ 1073741824) {w : Nat} (hw : w ≤ 22) (j m : Nat) : ln (tmj (plm 1 i a b c d w) x y j m).natAbs ≤ 2000 := by
  have h1 := tmj_ln (C := plm 1 i a b c d w) (j := j) (m := m) (fun k => plm_bd (s := 1) (i := i) (by decide) h w k) hx hy
  refine Nat.le_trans (ln_le (k := w + 2) (Nat.lt_of_le_of_lt h1 ?_)) (by omega)
  have h2 : 2147483648 ^ w ≤ W32 ^ w := Nat.pow_le_pow_left (by decide) w
  have h3 : 0 < W32 ^ w := Nat.pow_pos (by decide)
  rw [Nat.pow_succ, Nat.pow_succ]
  have h5 : W32 = 4294967296 := rfl
  generalize W32 ^ w = p at *
  generalize 2147483648 ^ w = q at *
  rw [h5]
  omega
theorem one_args : ArgsLe [.v (.c (.sl 1 Nat (fun i j => getL [ix 1] (i * 1 + j)) id 1))] [.v (.c (.sl 1 Int (fun z _ => ix z) (fun _ => 1) 1))] := .cons (.leaf (.sl fun i j hi hj => by
  obtain rfl : j = 0 := by omega
  obtain rfl : i = 0 := by omega
  exact .refl _)) .nil
set_option maxHeartbeats 8000000 in
set_option maxRecDepth 20000 in
theorem rMoved_sp (w i : Nat) (a b c d : Int) (hw : w ≤ 22) (hM : MOk a b c d) : Sp CX 57 [int .i64 w, int .i64 i, matA a b c d] (zsA (plm 1 i a b c d w) (w + 1)) := by
  have s0 := (Zs_sp (fun _ => 1) 1 (by omega) (fun _ _ => by omega) (fun _ _ => by omega)).frz
  refine fn_sp (C := CX) [] [] tysX_ok mixed Tryd.func57 rfl (by kernel_rfl) Tryd.ntmps57 rfl rfl ?_
  repeat' ((conv => whnf); first | refine Ob.g ?_ | refine WrOb.g ?_ | refine WrOb.u32 ?_ | refine WrOb.u64 ?_ | refine Cases.y ?_ | refine Cases.n ?_ | refine Idx.g rfl ?_ | refine Idx.z rfl ?_ | refine DrawOb.start ?_ | refine TryF.f ?_ | refine TryF.next rfl ?_ | refine TryF.other ?_ | refine TryA.g ?_ | refine TryA.next rfl ?_ | refine TryA.other ?_ | refine TryS.g ?_ | refine TryS.next rfl ?_ | refine TryS.other ?_ | refine TryG.g ?_ | refine TryG.next rfl ?_ | refine TryG.other ?_ | refine TryT.g ?_ | refine Sp.call (s0) (one_args) rfl (AvLe.refl _) ?_)
  refine ⟨⟨Nat, fun k => ⟨[(0, int .i64 w), (1, int .i64 i), (5, .v (.c (.loc 0 0))), (7, zsA (plm 1 i a b c d k) (k + 1)), (8, int .i64 k)], [(0, .st [ix a, ix b, ix c, ix d])], 1⟩, fun k => k ≤ w, fun k => w - k, ⟨0, [], Nat.zero_le _, by
    refine ⟨?_, ?_, rfl⟩
    · refine TmE.cons (AvLe.refl _) ?_
      refine TmE.cons (AvLe.refl _) ?_
      refine TmE.cons (AvLe.refl _) ?_
      refine TmE.cons (.leaf (.sl fun i j hi _ => by
        obtain rfl : i = 0 := by omega
        exact .refl _)) ?_
      refine TmE.cons (AvLe.refl _) ?_
      exact TmE.nil
    · repeat (first | exact OwnE.nil | refine OwnE.cons rfl (BlkLe.refl _) ?_)⟩, ?_⟩⟩
  intro k hk
  by_cases hkw : k < w
  · have e1 : plm 1 i a b c d (k + 1) = if k < i then tmp (plm 1 i a b c d k) a b else tmp (plm 1 i a b c d k) c d := rfl
    have hk0 : plm 1 i a b c d k (k + 1) = 0 := plm_out _ _ _ _ _ _ _ _ (by omega)
    have hkl : ∀ q, ln (plm 1 i a b c d k q).natAbs ≤ 1000 := fun q => Nat.le_trans (plm_ln (by decide) hM k q) (by omega)
    have hM' := hM
    obtain ⟨h1, h2, h3, h4⟩ := hM'
    have st1 := rtimes_sp _ (k + 1) a b (by omega) hk0 hkl (plm_tmj_ln hM (by omega) (by omega) (by omega)) (by omega) (by omega) (by omega) (by omega)
    have st2 := rtimes_sp _ (k + 1) c d (by omega) hk0 hkl (plm_tmj_ln hM (by omega) (by omega) (by omega)) (by omega) (by omega) (by omega) (by omega)
    clear hkl hk0
    by_cases hki : k < i
    · rw [if_pos hki] at e1
      rw [← e1] at st1
      repeat' ((conv => whnf); first | refine Ob.g ?_ | refine WrOb.g ?_ | refine WrOb.u32 ?_ | refine WrOb.u64 ?_ | refine Cases.y ?_ | refine Cases.n ?_ | refine Idx.g rfl ?_ | refine Idx.z rfl ?_ | refine DrawOb.start ?_ | refine TryF.f ?_ | refine TryF.next rfl ?_ | refine TryF.other ?_ | refine TryA.g ?_ | refine TryA.next rfl ?_ | refine TryA.other ?_ | refine TryS.g ?_ | refine TryS.next rfl ?_ | refine TryS.other ?_ | refine TryG.g ?_ | refine TryG.next rfl ?_ | refine TryG.other ?_ | refine TryT.g ?_ | refine Sp.g (st1) ?_)
      exact ⟨k + 1, [], by omega, by show w - (k + 1) < w - k; omega, Ent.g⟩
    · rw [if_neg hki] at e1
      rw [← e1] at st2
      repeat' ((conv => whnf); first | refine Ob.g ?_ | refine WrOb.g ?_ | refine WrOb.u32 ?_ | refine WrOb.u64 ?_ | refine Cases.y ?_ | refine Cases.n ?_ | refine Idx.g rfl ?_ | refine Idx.z rfl ?_ | refine DrawOb.start ?_ | refine TryF.f ?_ | refine TryF.next rfl ?_ | refine TryF.other ?_ | refine TryA.g ?_ | refine TryA.next rfl ?_ | refine TryA.other ?_ | refine TryS.g ?_ | refine TryS.next rfl ?_ | refine TryS.other ?_ | refine TryG.g ?_ | refine TryG.next rfl ?_ | refine TryG.other ?_ | refine TryT.g ?_ | refine Sp.g (st2) ?_)
      exact ⟨k + 1, [], by omega, by show w - (k + 1) < w - k; omega, Ent.g⟩
  · obtain rfl : k = w := by omega
    repeat' ((conv => whnf); first | refine Ob.g ?_ | refine WrOb.g ?_ | refine WrOb.u32 ?_ | refine WrOb.u64 ?_ | refine Cases.y ?_ | refine Cases.n ?_ | refine Idx.g rfl ?_ | refine Idx.z rfl ?_ | refine DrawOb.start ?_ | refine TryF.f ?_ | refine TryF.next rfl ?_ | refine TryF.other ?_ | refine TryA.g ?_ | refine TryA.next rfl ?_ | refine TryA.other ?_ | refine TryS.g ?_ | refine TryS.next rfl ?_ | refine TryS.other ?_ | refine TryG.g ?_ | refine TryG.next rfl ?_ | refine TryG.other ?_ | refine TryT.g ?_)
    refine ⟨⟨_, _, rfl, rfl, ?_⟩⟩
    exact AvLe.refl _
theorem mvI_next {L p : Nat} {P : Nat → Int} {k : Nat} (hp : p < L) (cnt : Nat) {H : Nat → Int} (h : ∀ m, m < cnt → H m = mvH L p P k m) : ∀ m, m < cnt → setZ Int H (k * L + p) (P k) m = mvH L p P (k + 1) m := fun m hm => by
  have := mvH_next hp cnt (H := fun m => some (H m)) (fun m hm => congrArg some (h m hm)) m hm
  unfold setZ at this ⊢
  by_cases e : m = k * L + p
  · rw [if_pos e] at this ⊢; exact Option.some.inj this
  · rw [if_neg e] at this ⊢; exact Option.some.inj this
theorem rApply_bad (L K D r a b c d : Int) (h : dchk L K D ≠ 0) : Sp CX 26 [specA L K D, int .i64 r, matA a b c d] (noA (dchk L K D)) := by
  have s := rSymbol_bad L K D r h
  obtain ⟨e, he⟩ : ∃ e, e = dchk L K D := ⟨_, rfl⟩
  rw [← he] at s h ⊢
  refine fn_sp (C := CX) [] [] tysX_ok mixed Tryd.func26 rfl (by kernel_rfl) Tryd.ntmps26 rfl rfl ?_
  repeat' ((conv => whnf); first | refine Ob.g ?_ | refine WrOb.g ?_ | refine WrOb.u32 ?_ | refine WrOb.u64 ?_ | refine Cases.y ?_ | refine Cases.n ?_ | refine Idx.g rfl ?_ | refine Idx.z rfl ?_ | refine DrawOb.start ?_ | refine TryF.f ?_ | refine TryF.next rfl ?_ | refine TryF.other ?_ | refine TryA.g ?_ | refine TryA.next rfl ?_ | refine TryA.other ?_ | refine TryS.g ?_ | refine TryS.next rfl ?_ | refine TryS.other ?_ | refine TryG.g ?_ | refine TryG.next rfl ?_ | refine TryG.other ?_ | refine TryT.g ?_ | refine Sp.g (s) ?_)
  refine ⟨⟨_, _, rfl, rfl, ?_⟩⟩
  exact AvLe.refl _
theorem rApply_out1 (n k : Nat) (D r a b c d : Int) (h : DOk n k D) (hr : ¬ (0 ≤ r ∧ r < ((k - 2 + 1) * (pts n).length : Nat))) : Sp CX 26 [specA n k D, int .i64 r, matA a b c d] (noA 2) := by
  have s := rSymbol_out n k D r h hr
  refine fn_sp (C := CX) [] [] tysX_ok mixed Tryd.func26 rfl (by kernel_rfl) Tryd.ntmps26 rfl rfl ?_
  repeat' ((conv => whnf); first | refine Ob.g ?_ | refine WrOb.g ?_ | refine WrOb.u32 ?_ | refine WrOb.u64 ?_ | refine Cases.y ?_ | refine Cases.n ?_ | refine Idx.g rfl ?_ | refine Idx.z rfl ?_ | refine DrawOb.start ?_ | refine TryF.f ?_ | refine TryF.next rfl ?_ | refine TryF.other ?_ | refine TryA.g ?_ | refine TryA.next rfl ?_ | refine TryA.other ?_ | refine TryS.g ?_ | refine TryS.next rfl ?_ | refine TryS.other ?_ | refine TryG.g ?_ | refine TryG.next rfl ?_ | refine TryG.other ?_ | refine TryT.g ?_ | refine Sp.g (s) ?_)
  refine ⟨⟨_, _, rfl, rfl, ?_⟩⟩
  exact AvLe.refl _
set_option maxHeartbeats 16000000 in
set_option maxRecDepth 20000 in
theorem rApply_out2 (n k r : Nat) (D a b c d : Int) (h : DOk n k D) (hr : r < (k - 2 + 1) * (pts n).length) (hM : ¬ MOk a b c d) : Sp CX 26 [specA n k D, int .i64 r, matA a b c d] (noA 2) := by
  have s := rSymbol_ok n k r D h hr
  unfold msyV at s
  generalize ((r / (pts n).length : Nat) : Int) = y0 at *
  generalize ((pt n (r % (pts n).length) / n : Nat) : Int) = y1 at *
  generalize ((pt n (r % (pts n).length) % n : Nat) : Int) = y2 at *
  clear hr
  refine fn_sp (C := CX) [] [] tysX_ok mixed Tryd.func26 rfl (by kernel_rfl) Tryd.ntmps26 rfl rfl ?_
  repeat' ((conv => whnf); first | refine Ob.g ?_ | refine WrOb.g ?_ | refine WrOb.u32 ?_ | refine WrOb.u64 ?_ | refine Cases.y ?_ | refine Cases.n ?_ | refine Idx.g rfl ?_ | refine Idx.z rfl ?_ | refine DrawOb.start ?_ | refine TryF.f ?_ | refine TryF.next rfl ?_ | refine TryF.other ?_ | refine TryA.g ?_ | refine TryA.next rfl ?_ | refine TryA.other ?_ | refine TryS.g ?_ | refine TryS.next rfl ?_ | refine TryS.other ?_ | refine TryG.g ?_ | refine TryG.next rfl ?_ | refine TryG.other ?_ | refine TryT.g ?_ | refine Sp.g (s) ?_)
  refine ⟨⟨Nat, fun j => ⟨[(36, matA a b c d), (37, int .i64 j)], [], 3⟩, fun j => j ≤ 4 ∧ ∀ j', j' < j → -1073741824 ≤ m4 a b c d j' ∧ m4 a b c d j' ≤ 1073741824, fun j => 4 - j, ⟨0, [], ⟨Nat.zero_le _, fun j h => absurd h (Nat.not_lt_zero _)⟩, Ent.g⟩, ?_⟩⟩
  rintro j ⟨h1, h2⟩
  by_cases h4 : j = 4
  · subst h4
    exact absurd (MOk_iff.2 h2) hM
  · obtain ⟨x, hx⟩ : ∃ x, x = m4 a b c d j := ⟨_, rfl⟩
    by_cases ok : -1073741824 ≤ x ∧ x ≤ 1073741824
    · have hn : ∀ j', j' < j + 1 → -1073741824 ≤ m4 a b c d j' ∧ m4 a b c d j' ≤ 1073741824 := fun j' hj' => by
        by_cases e : j' = j
        · rw [e, ← hx]; exact ok
        · exact h2 j' (by omega)
      have hb : 4 - (j + 1) < 4 - j := by omega
      obtain ⟨o1, o2⟩ := ok
      rcases (show j = 0 ∨ j = 1 ∨ j = 2 ∨ j = 3 by omega) with rfl | rfl | rfl | rfl <;>
      ( (first | (obtain rfl : x = a := hx) | (obtain rfl : x = b := hx) | (obtain rfl : x = c := hx) | (obtain rfl : x = d := hx))
        repeat' ((conv => whnf); first | (refine Cases.n ?_ (decide_eq_false (by omega))) | refine Ob.g ?_ | refine WrOb.g ?_ | refine WrOb.u32 ?_ | refine WrOb.u64 ?_ | refine Cases.y ?_ | refine Cases.n ?_ | refine Idx.g rfl ?_ | refine Idx.z rfl ?_ | refine DrawOb.start ?_ | refine TryF.f ?_ | refine TryF.next rfl ?_ | refine TryF.other ?_ | refine TryA.g ?_ | refine TryA.next rfl ?_ | refine TryA.other ?_ | refine TryS.g ?_ | refine TryS.next rfl ?_ | refine TryS.other ?_ | refine TryG.g ?_ | refine TryG.next rfl ?_ | refine TryG.other ?_ | refine TryT.g ?_)
        exact ⟨_, [], ⟨by omega, hn⟩, hb, Ent.g⟩)
    · by_cases o1 : x < -1073741824
      · rcases (show j = 0 ∨ j = 1 ∨ j = 2 ∨ j = 3 by omega) with rfl | rfl | rfl | rfl <;>
        ( (first | (obtain rfl : x = a := hx) | (obtain rfl : x = b := hx) | (obtain rfl : x = c := hx) | (obtain rfl : x = d := hx))
          repeat' ((conv => whnf); first | (refine Cases.y ?_ (decide_eq_true (by omega))) | (refine Cases.n ?_ (decide_eq_false (by omega))) | refine Ob.g ?_ | refine WrOb.g ?_ | refine WrOb.u32 ?_ | refine WrOb.u64 ?_ | refine Cases.y ?_ | refine Cases.n ?_ | refine Idx.g rfl ?_ | refine Idx.z rfl ?_ | refine DrawOb.start ?_ | refine TryF.f ?_ | refine TryF.next rfl ?_ | refine TryF.other ?_ | refine TryA.g ?_ | refine TryA.next rfl ?_ | refine TryA.other ?_ | refine TryS.g ?_ | refine TryS.next rfl ?_ | refine TryS.other ?_ | refine TryG.g ?_ | refine TryG.next rfl ?_ | refine TryG.other ?_ | refine TryT.g ?_)
          refine ⟨⟨_, _, rfl, rfl, ?_⟩⟩
          exact AvLe.refl _)
      · have o2 : 1073741824 < x := by omega
        rcases (show j = 0 ∨ j = 1 ∨ j = 2 ∨ j = 3 by omega) with rfl | rfl | rfl | rfl <;>
        ( (first | (obtain rfl : x = a := hx) | (obtain rfl : x = b := hx) | (obtain rfl : x = c := hx) | (obtain rfl : x = d := hx))
          repeat' ((conv => whnf); first | (refine Cases.y ?_ (decide_eq_true (by omega))) | (refine Cases.n ?_ (decide_eq_false (by omega))) | refine Ob.g ?_ | refine WrOb.g ?_ | refine WrOb.u32 ?_ | refine WrOb.u64 ?_ | refine Cases.y ?_ | refine Cases.n ?_ | refine Idx.g rfl ?_ | refine Idx.z rfl ?_ | refine DrawOb.start ?_ | refine TryF.f ?_ | refine TryF.next rfl ?_ | refine TryF.other ?_ | refine TryA.g ?_ | refine TryA.next rfl ?_ | refine TryA.other ?_ | refine TryS.g ?_ | refine TryS.next rfl ?_ | refine TryS.other ?_ | refine TryG.g ?_ | refine TryG.next rfl ?_ | refine TryG.other ?_ | refine TryT.g ?_)
          refine ⟨⟨_, _, rfl, rfl, ?_⟩⟩
          exact AvLe.refl _)
theorem mul_bd {u a A B : Int} (h1 : 0 ≤ u) (h2 : u ≤ A) (h3 : -B ≤ a) (h4 : a ≤ B) (hB : 0 ≤ B) : -(A * B) ≤ u * a ∧ u * a ≤ A * B := by
  have h5 : u * B ≤ A * B := Int.mul_le_mul_of_nonneg_right h2 hB
  have h6 : u * a ≤ u * B := Int.mul_le_mul_of_nonneg_left h4 h1
  have h7 : u * (-B) ≤ u * a := Int.mul_le_mul_of_nonneg_left h3 h1
  rw [Int.mul_neg] at h7
  omega
set_option maxHeartbeats 16000000 in
set_option maxRecDepth 20000 in
theorem rApply_ok (n k r : Nat) (D a b c d : Int) (h : DOk n k D) (hr : r < (k - 2 + 1) * (pts n).length) (hM : MOk a b c d) : Sp CX 26 [specA n k D, int .i64 r, matA a b c d] (.tup [.c (zsL (vS n D (k - 2) r a b c d) ((k - 2 + 1) * (pts n).length)), .c (ix 0)]) := by
  have s := rSymbol_ok n k r D h hr
  have s3 := rList_sp n h.n0 h.n1
  have hl := len_pts h.n1
  have hk0 := h.k0
  have hk1 := h.k1
  have hn0 := h.n0
  have hn1 := h.n1
  have hn : 0 < n := hn0
  have hl0 : 0 < (pts n).length := Nat.pos_of_ne_zero fun e => by rw [e, Nat.mul_zero] at hr; omega
  have hrl : r / (pts n).length < k - 2 + 1 := Nat.div_lt_of_lt_mul (by rw [Nat.mul_comm]; exact hr)
  have hj := Nat.mod_lt r hl0
  have hpt := pt_lt hj
  have hc := mcnt_le (w := k - 2) h.n1 (by omega)
  have ecnt : (((k - 2 + 1) * (pts n).length : Nat) : Int) = ((k : Int) - 1) * (pts n).length := by
    rw [Int.natCast_mul]
    congr 1
    omega
  have hc2 : 0 ≤ ((k : Int) - 1) * (pts n).length ∧ ((k : Int) - 1) * (pts n).length ≤ 331200 := by rw [← ecnt]; omega
  have sz := Zs_sp (fun _ => 0) ((k - 2 + 1) * (pts n).length) (by omega) (fun _ _ => by omega) (fun _ _ => by omega)
  have hM' := hM
  obtain ⟨ba, bb, bc, bd⟩ := hM'
  have hu : 0 ≤ ((pt n (r % (pts n).length) / n : Nat) : Int) ∧ ((pt n (r % (pts n).length) / n : Nat) : Int) ≤ 120 := ⟨Int.natCast_nonneg _, Int.le_trans (Int.le_of_lt (show ((pt n (r % (pts n).length) / n : Nat) : Int) < n by exact_mod_cast Nat.div_lt_of_lt_mul hpt)) (by omega)⟩
  have hv : 0 ≤ ((pt n (r % (pts n).length) % n : Nat) : Int) ∧ ((pt n (r % (pts n).length) % n : Nat) : Int) ≤ 120 := ⟨Int.natCast_nonneg _, Int.le_trans (Int.le_of_lt (show ((pt n (r % (pts n).length) % n : Nat) : Int) < n by exact_mod_cast Nat.mod_lt _ (show n > 0 by omega))) (by omega)⟩
  have scl := class_sp n k D ((pt n (r % (pts n).length) / n : Nat) * a + (pt n (r % (pts n).length) % n : Nat) * c) ((pt n (r % (pts n).length) / n : Nat) * b + (pt n (r % (pts n).length) % n : Nat) * d) h
  have eac : pr n ((pt n (r % (pts n).length) / n : Nat) * a + (pt n (r % (pts n).length) % n : Nat) * c) ((pt n (r % (pts n).length) / n : Nat) * b + (pt n (r % (pts n).length) % n : Nat) * d) = acP n (pt n (r % (pts n).length)) a b c d := rfl
  rw [eac] at scl
  have hy := acP_lt (show 0 < n by omega) (pt n (r % (pts n).length)) a b c d
  have hpL : copB n (acP n (pt n (r % (pts n).length)) a b c d) = true → pIx n (acP n (pt n (r % (pts n).length)) a b c d) < (pts n).length := fun h => pIx_lt (by omega) hy h
  have hcases := pSg_cases h hy
  have evs : vS n D (k - 2) r a b c d = fun m => if m % (pts n).length = pIx n (acP n (pt n (r % (pts n).length)) a b c d) then pSg n D (acP n (pt n (r % (pts n).length)) a b c d) * plm 1 (r / (pts n).length) a b c d (k - 2) (m / (pts n).length) else 0 := rfl
  rw [evs]
  clear evs eac
  unfold msyV at s
  generalize acP n (pt n (r % (pts n).length)) a b c d = y at *
  have p1 := mul_bd hu.1 hu.2 ba.1 ba.2 (by omega)
  have p2 := mul_bd hv.1 hv.2 bc.1 bc.2 (by omega)
  have p3 := mul_bd hu.1 hu.2 bb.1 bb.2 (by omega)
  have p4 := mul_bd hv.1 hv.2 bd.1 bd.2 (by omega)
  generalize ((pt n (r % (pts n).length) / n : Nat) : Int) = u at *
  generalize ((pt n (r % (pts n).length) % n : Nat) : Int) = v at *
  obtain ⟨cnt, ec⟩ : ∃ c, c = (k - 2 + 1) * (pts n).length := ⟨_, rfl⟩
  rw [← ec] at sz hc ecnt ⊢
  have smv := rMoved_sp (k - 2) (r / (pts n).length) a b c d (by omega) hM
  have hPl := fun q => plm_ln (s := 1) (i := r / (pts n).length) (by decide) hM (k - 2) q
  have ek : ((k - 2 : Nat) : Int) = (k : Int) - 2 := by omega
  rw [ek] at smv
  generalize r / (pts n).length = ri at *
  clear hrl hpt hj hM hr
  refine fn_sp (C := CX) [] [4] tysX_ok mixed Tryd.func26 rfl (by kernel_rfl) Tryd.ntmps26 rfl rfl ?_
  repeat' ((conv => whnf); first | refine Ob.g ?_ | refine WrOb.g ?_ | refine WrOb.u32 ?_ | refine WrOb.u64 ?_ | refine Cases.y ?_ | refine Cases.n ?_ | refine Idx.g rfl ?_ | refine Idx.z rfl ?_ | refine DrawOb.start ?_ | refine TryF.f ?_ | refine TryF.next rfl ?_ | refine TryF.other ?_ | refine TryA.g ?_ | refine TryA.next rfl ?_ | refine TryA.other ?_ | refine TryS.g ?_ | refine TryS.next rfl ?_ | refine TryS.other ?_ | refine TryG.g ?_ | refine TryG.next rfl ?_ | refine TryG.other ?_ | refine TryT.g ?_ | refine Sp.g (s) ?_)
  refine ⟨⟨Nat, fun j => ⟨[(3, .v (.c (.loc 0 0))), (5, .v (.c (.loc 1 0))), (8, .v (.c (.loc 2 0))), (36, matA a b c d), (37, int .i64 j)], [(2, .st [ix ri, ix u, ix v]), (1, .st [ix a, ix b, ix c, ix d]), (0, .st [ix n, ix k, ix D])], 3⟩, fun j => j ≤ 4, fun j => 4 - j, ⟨0, [], Nat.zero_le _, Ent.g⟩, ?_⟩⟩
  intro j hj4
  by_cases h4 : j = 4
  · subst h4
    rcases hcases with ⟨hcop, hs⟩ | ⟨_, hs⟩
    · have hpl := hpL hcop
      have hne : pSg n D y ≠ 0 := by rcases hs with h | h <;> omega
      have so := Z_sp (pSg n D y) (by rcases hs with h | h <;> omega) (by rcases hs with h | h <;> omega)
      have hsl : ln (pSg n D y).natAbs ≤ 2 := ln_two (by rcases hs with h | h <;> rw [h] <;> decide)
      have sm := fun q => rMul_sp (pSg n D y) (plm 1 ri a b c d (k - 2) q) (by omega) (Nat.le_trans (hPl q) (by omega))
      clear hs hcop hpL hPl
      repeat' ((conv => whnf); first | (refine Ob.mk ⟨rfl, by omega, by decide⟩ ?_) | refine Ob.g ?_ | refine WrOb.g ?_ | refine WrOb.u32 ?_ | refine WrOb.u64 ?_ | refine Cases.y ?_ | refine Cases.n ?_ | refine Idx.g rfl ?_ | refine Idx.z rfl ?_ | refine DrawOb.start ?_ | refine TryF.f ?_ | refine TryF.next rfl ?_ | refine TryF.other ?_ | refine TryA.g ?_ | refine TryA.next rfl ?_ | refine TryA.other ?_ | refine TryS.g ?_ | refine TryS.next rfl ?_ | refine TryS.other ?_ | refine TryG.g ?_ | refine TryG.next rfl ?_ | refine TryG.other ?_ | refine TryT.g ?_ | refine Sp.g (s3) ?_)
      refine ⟨⟨Int, fun z _ => ix z, fun _ => 0, cnt, by omega, mk_ix _, ?_⟩⟩
      repeat' ((conv => whnf); first | refine Ob.g ?_ | refine WrOb.g ?_ | refine WrOb.u32 ?_ | refine WrOb.u64 ?_ | refine Cases.y ?_ | refine Cases.n ?_ | refine Idx.g rfl ?_ | refine Idx.z rfl ?_ | refine DrawOb.start ?_ | refine TryF.f ?_ | refine TryF.next rfl ?_ | refine TryF.other ?_ | refine TryA.g ?_ | refine TryA.next rfl ?_ | refine TryA.other ?_ | refine TryS.g ?_ | refine TryS.next rfl ?_ | refine TryS.other ?_ | refine TryG.g ?_ | refine TryG.next rfl ?_ | refine TryG.other ?_ | refine TryT.g ?_ | refine SpR.call (sz) (ArgsLe.refl _) rfl rfl ?_ | refine Sp.g (scl) ?_ | refine Sp.g (smv) ?_)
      refine ⟨⟨Nat × (Nat → Int), fun (q, H) => ⟨[(12, .v (.c (.sl 3 Nat (ptL n) (pt n) (pts n).length))), (14, .v (.c (.row 4))), (15, int .i64 (pIx n y)), (16, int .i64 (pSg n D y)), (17, zsA (plm 1 ri a b c d (k - 2)) (k - 2 + 1)), (18, int .i64 q)], [(4, .rw 2 69 false Int zL H cnt)], 5⟩, fun (q, H) => q ≤ k - 2 + 1 ∧ ∀ m, m < cnt → H m = mvH (pts n).length (pIx n y) (fun q => pSg n D y * plm 1 ri a b c d (k - 2) q) q m, fun (q, _) => k - 2 + 1 - q, ⟨(0, fun _ => 0), [], ⟨Nat.zero_le _, fun m hm => by unfold mvH; rw [if_neg (fun h => absurd h.2 (Nat.not_lt_zero _))]⟩, Ent.g⟩, ?_⟩⟩
      rintro ⟨q, H⟩ ⟨q1, hH⟩
      by_cases hq : q < k - 2 + 1
      · have hn := mvI_next hpl cnt hH
        have hb1 : q * (pts n).length + pIx n y < cnt := by
          have : (q + 1) * (pts n).length ≤ (k - 2 + 1) * (pts n).length := Nat.mul_le_mul_right _ hq
          rw [Nat.succ_mul] at this
          omega
        have eq1 : ((q * (pts n).length + pIx n y : Nat) : Int) = (q : Int) * (pts n).length + (pIx n y : Nat) := by rw [Int.natCast_add, Int.natCast_mul]
        have hq0 : 0 ≤ (q : Int) * (pts n).length := Int.mul_nonneg (by omega) (by omega)
        have hq2 : (q : Int) * (pts n).length ≤ 331200 := by omega
        have sm := sm q
        clear hH
        repeat' ((conv => whnf); first | (refine Idx.mk ⟨q, rfl, hq, ?_⟩) | (refine Idx.mk ⟨q * (pts n).length + pIx n y, by omega, hb1, ?_⟩) | refine Ob.g ?_ | refine WrOb.g ?_ | refine WrOb.u32 ?_ | refine WrOb.u64 ?_ | refine Cases.y ?_ | refine Cases.n ?_ | refine Idx.g rfl ?_ | refine Idx.z rfl ?_ | refine DrawOb.start ?_ | refine TryF.f ?_ | refine TryF.next rfl ?_ | refine TryF.other ?_ | refine TryA.g ?_ | refine TryA.next rfl ?_ | refine TryA.other ?_ | refine TryS.g ?_ | refine TryS.next rfl ?_ | refine TryS.other ?_ | refine TryG.g ?_ | refine TryG.next rfl ?_ | refine TryG.other ?_ | refine TryT.g ?_ | refine Sp.g (so) ?_ | refine Sp.g (sm) ?_)
        refine ⟨⟨pSg n D y * plm 1 ri a b c d (k - 2) q, rfl, ?_⟩⟩
        repeat' ((conv => whnf); first | refine Ob.g ?_ | refine WrOb.g ?_ | refine WrOb.u32 ?_ | refine WrOb.u64 ?_ | refine Cases.y ?_ | refine Cases.n ?_ | refine Idx.g rfl ?_ | refine Idx.z rfl ?_ | refine DrawOb.start ?_ | refine TryF.f ?_ | refine TryF.next rfl ?_ | refine TryF.other ?_ | refine TryA.g ?_ | refine TryA.next rfl ?_ | refine TryA.other ?_ | refine TryS.g ?_ | refine TryS.next rfl ?_ | refine TryS.other ?_ | refine TryG.g ?_ | refine TryG.next rfl ?_ | refine TryG.other ?_ | refine TryT.g ?_)
        exact ⟨(q + 1, _), [], ⟨by omega, hn⟩, by show k - 2 + 1 - (q + 1) < k - 2 + 1 - q; omega, Ent.g⟩
      · obtain rfl : q = k - 2 + 1 := by omega
        clear sm
        repeat' ((conv => whnf); first | refine Ob.g ?_ | refine WrOb.g ?_ | refine WrOb.u32 ?_ | refine WrOb.u64 ?_ | refine Cases.y ?_ | refine Cases.n ?_ | refine Idx.g rfl ?_ | refine Idx.z rfl ?_ | refine DrawOb.start ?_ | refine TryF.f ?_ | refine TryF.next rfl ?_ | refine TryF.other ?_ | refine TryA.g ?_ | refine TryA.next rfl ?_ | refine TryA.other ?_ | refine TryS.g ?_ | refine TryS.next rfl ?_ | refine TryS.other ?_ | refine TryG.g ?_ | refine TryG.next rfl ?_ | refine TryG.other ?_ | refine TryT.g ?_)
        refine ⟨⟨_, _, rfl, rfl, ?_⟩⟩
        refine .tup (.cons (.leaf (.sl fun m j hm _ => ?_)) (.cons (.refl _) .nil))
        rw [hH m hm, mvH_end (by rw [← ec]; exact hm)]
        exact .refl _
    · rw [hs] at scl
      clear smv hPl
      repeat' ((conv => whnf); first | (refine Ob.mk ⟨rfl, by omega, by decide⟩ ?_) | refine Ob.g ?_ | refine WrOb.g ?_ | refine WrOb.u32 ?_ | refine WrOb.u64 ?_ | refine Cases.y ?_ | refine Cases.n ?_ | refine Idx.g rfl ?_ | refine Idx.z rfl ?_ | refine DrawOb.start ?_ | refine TryF.f ?_ | refine TryF.next rfl ?_ | refine TryF.other ?_ | refine TryA.g ?_ | refine TryA.next rfl ?_ | refine TryA.other ?_ | refine TryS.g ?_ | refine TryS.next rfl ?_ | refine TryS.other ?_ | refine TryG.g ?_ | refine TryG.next rfl ?_ | refine TryG.other ?_ | refine TryT.g ?_ | refine Sp.g (s3) ?_)
      refine ⟨⟨Int, fun z _ => ix z, fun _ => 0, cnt, by omega, mk_ix _, ?_⟩⟩
      repeat' ((conv => whnf); first | refine Ob.g ?_ | refine WrOb.g ?_ | refine WrOb.u32 ?_ | refine WrOb.u64 ?_ | refine Cases.y ?_ | refine Cases.n ?_ | refine Idx.g rfl ?_ | refine Idx.z rfl ?_ | refine DrawOb.start ?_ | refine TryF.f ?_ | refine TryF.next rfl ?_ | refine TryF.other ?_ | refine TryA.g ?_ | refine TryA.next rfl ?_ | refine TryA.other ?_ | refine TryS.g ?_ | refine TryS.next rfl ?_ | refine TryS.other ?_ | refine TryG.g ?_ | refine TryG.next rfl ?_ | refine TryG.other ?_ | refine TryT.g ?_ | refine SpR.call (sz) (ArgsLe.refl _) rfl rfl ?_ | refine Sp.g (scl) ?_)
      refine ⟨⟨_, _, rfl, rfl, ?_⟩⟩
      refine .tup (.cons (.leaf (.sl fun m j hm _ => ?_)) (.cons (.refl _) .nil))
      rw [hs, Int.zero_mul, ite_self]
      exact .refl _
  · have hb : 4 - (j + 1) < 4 - j := by omega
    rcases (show j = 0 ∨ j = 1 ∨ j = 2 ∨ j = 3 by omega) with rfl | rfl | rfl | rfl <;>
    ( skip
      repeat' ((conv => whnf); first | (refine Cases.n ?_ (decide_eq_false (by omega))) | refine Ob.g ?_ | refine WrOb.g ?_ | refine WrOb.u32 ?_ | refine WrOb.u64 ?_ | refine Cases.y ?_ | refine Cases.n ?_ | refine Idx.g rfl ?_ | refine Idx.z rfl ?_ | refine DrawOb.start ?_ | refine TryF.f ?_ | refine TryF.next rfl ?_ | refine TryF.other ?_ | refine TryA.g ?_ | refine TryA.next rfl ?_ | refine TryA.other ?_ | refine TryS.g ?_ | refine TryS.next rfl ?_ | refine TryS.other ?_ | refine TryG.g ?_ | refine TryG.next rfl ?_ | refine TryG.other ?_ | refine TryT.g ?_)
      exact ⟨_, [], by omega, hb, Ent.g⟩)
end Go.Proofs.YtedfcemebdlgfaaDoor

