/- Own texts joined: TlC, TlD, TlH. -/
import Derived.Test.YtjijdabbhfefjaaGreatDoorTlA
import Derived.Test.YtjijdabbhfefjaaGreatDoorPkTsA
import Derived.Test.YtjijdabbhfefjaaGreatDoorPkTsD
import Derived.Test.YtjijdabbhfefjaaGreatDoorPkTsF
/- The statements about traces: totals. -/
namespace Go.Proofs.YtjijdabbhfefjaaGreatDoor
open Go Go.RowKit Go.VG HP
theorem tot_dvd {N k n : Nat} {Δ : Int} (ok : DOk N k Δ) (n1 : 1 ≤ n) (n2 : n ≤ 128) (hn : Nat.gcd n N = 1) : (12 : Int) ∣ T12 N k Δ n := by
  have h0 := ok.n0
  have h1 := ok.n1
  refine totB_at ?_ ok n1 n2 hn
  by_cases c1 : N < 24
  · exact pairR_at tot_chkA ok (by omega) c1
  by_cases c2 : N < 46
  · exact pairR_at tot_chkB ok (by omega) c2
  by_cases c3 : N < 66
  · exact pairR_at tot_chkC ok (by omega) c3
  by_cases c4 : N < 83
  · exact pairR_at tot_chkD ok (by omega) c4
  by_cases c5 : N < 96
  · exact pairR_at tot_chkE ok (by omega) c5
  by_cases c6 : N < 110
  · exact pairR_at tot_chkF ok (by omega) c6
  · exact pairR_at tot_chkG ok (by omega) (by omega)
end Go.Proofs.YtjijdabbhfefjaaGreatDoor

/- The statements about traces: the walk of totals. -/
namespace Go.Proofs.YtjijdabbhfefjaaGreatDoor
open Go Go.RowKit Go.VG HP
theorem izs_le : AvLe (.v (.agg iZs)) (zA 0) := .agg (.cons (.bool rfl) (.cons .nil .nil))
theorem tots_bad (L K D n : Int) (h : trE L K D n ≠ 0) : Sp CX 4 [specA L K D, int .i64 n] (bool true) := by
  have s0 := tawake_sp
  have p := Parts_bad L K D n h
  have t := Trace_bad L K D n h
  have i := SameInt_sp 0 (by decide)
  generalize trE L K D n = e at *
  refine fn_sp (C := CX) [] [] tysX_ok mixed Tryz.func4 rfl (by kernel_rfl) Tryz.ntmps4 rfl rfl ?_
  repeat' ((conv => whnf); first | refine Ja ?_ | refine Jb ?_ | refine Jc ?_ | refine Jd ?_ | refine Je ?_ | refine Jf ?_ | refine Jg rfl ?_ | refine Jh rfl ?_ | refine Ji ?_ | refine Jj ?_ | refine Jk rfl ?_ | refine Jl ?_ | refine Jm ?_ | refine Jn rfl ?_ | refine Jo ?_ | refine Jp ?_ | refine Jq rfl ?_ | refine Jr ?_ | refine Js ?_ | refine Jt rfl ?_ | refine Ju ?_ | refine Jv ?_ | refine Jw ?_ | refine Jx rfl ?_ | refine Jy s0 ?_ | refine Jy p ?_ | refine Jy t ?_ | refine Sp.call (i) (.cons izs_le (.cons izs_le .nil)) rfl (AvLe.refl _) ?_)
  refine ⟨⟨_, _, rfl, rfl, ?_⟩⟩
  exact AvLe.bool rfl
theorem tots_ok (L K D n : Int) (a b c d : Rat) (X : Int) (p : Sp CX 13 [specA L K D, int .i64 n] (.tup [ptV a b c d, .c (ix 0)])) (q : TrQ a b c d X) : Sp CX 4 [specA L K D, int .i64 n] (bool true) := by
  have s0 := tawake_sp
  have t := Trace_core L K D n a b c d X p q
  obtain ⟨qa, qb, qc, qd, e, x⟩ := q
  have s1 := RSub_sp a b (qa.mono (by omega)) (qb.mono (by omega))
  have s2 := RSub_sp (a - b) c ((qa.sub qb).mono (by omega)) (qc.mono (by omega))
  have s3 := RAdd_sp (a - b - c) d (((qa.sub qb).sub qc).mono (by omega)) (qd.mono (by omega))
  rw [e] at s3
  have i := Integer_sp X (by omega)
  have j := SameInt_sp X (by omega)
  generalize a - b - c = z at *
  generalize a - b = y at *
  refine fn_sp (C := CX) [] [] tysX_ok mixed Tryz.func4 rfl (by kernel_rfl) Tryz.ntmps4 rfl rfl ?_
  repeat' ((conv => whnf); first | refine Ja ?_ | refine Jb ?_ | refine Jc ?_ | refine Jd ?_ | refine Je ?_ | refine Jf ?_ | refine Jg rfl ?_ | refine Jh rfl ?_ | refine Ji ?_ | refine Jj ?_ | refine Jk rfl ?_ | refine Jl ?_ | refine Jm ?_ | refine Jn rfl ?_ | refine Jo ?_ | refine Jp ?_ | refine Jq rfl ?_ | refine Jr ?_ | refine Js ?_ | refine Jt rfl ?_ | refine Ju ?_ | refine Jv ?_ | refine Jw ?_ | refine Jx rfl ?_ | refine Jy s0 ?_ | refine Jy p ?_ | refine Jy t ?_ | refine Jy s1 ?_ | refine Jy s2 ?_ | refine Jy s3 ?_ | refine Jy i ?_ | refine Jy j ?_)
  refine ⟨⟨_, _, rfl, rfl, ?_⟩⟩
  exact AvLe.bool rfl
end Go.Proofs.YtjijdabbhfefjaaGreatDoor

/- The statements about traces: totals, bounds. -/
namespace Go.Proofs.YtjijdabbhfefjaaGreatDoor
open Go Go.RowKit Go.VG HP
theorem law_ttot (L K D n : Int) : Sp CX 4 [specA L K D, int .i64 n] (bool true) := by
  by_cases h : trE L K D n = 0
  · obtain ⟨N, k, m, rfl, rfl, rfl, ok, m1, m2, hg⟩ := trE_ok h
    have d := tot_dvd ok m1 m2 hg
    exact tots_ok N k D m _ _ _ _ _ (Parts_ok N k m D ok m1 m2 hg) (trQ_ok ok m1 m2 d)
  · exact tots_bad L K D n h
end Go.Proofs.YtjijdabbhfefjaaGreatDoor

