/- Own texts joined: DmK, DmL, DmM. -/
import Derived.Test.YtjijdabbhfefjaaGreatDoorPkDmH
/- Signatures: their checks and dimensions, on both sides. -/
namespace Go.Proofs.YtjijdabbhfefjaaGreatDoor
open Go Go.RowKit Go.VG HP
def sigA (I G N2 N3 C R : Int) (M : Bool) : AV := .v (.agg [ix I, ix G, ix N2, ix N3, ix C, ix R, .x (.bool M)])
def six (I G N2 N3 C R : Int) : Prop := (0 ≤ I ∧ I ≤ 10000) ∧ (0 ≤ G ∧ G ≤ 10000) ∧ (0 ≤ N2 ∧ N2 ≤ 10000) ∧ (0 ≤ N3 ∧ N3 ≤ 10000) ∧ (0 ≤ C ∧ C ≤ 10000) ∧ (0 ≤ R ∧ R ≤ 10000)
instance (I G N2 N3 C R : Int) : Decidable (six I G N2 N3 C R) := by unfold six; infer_instance
def formB (I G N2 N3 C R : Int) (M : Bool) : Prop := C < R ∨ (M = true ∧ 0 < R) ∨ (M = false ∧ (0 < N2 ∨ (C - R) % 2 ≠ 0)) ∨ 12 * G ≠ 12 + I - 3 * N2 - 4 * N3 - 6 * C
instance (I G N2 N3 C R : Int) (M : Bool) : Decidable (formB I G N2 N3 C R M) := by unfold formB; infer_instance
section
variable {I G N2 N3 C R K : Int} {M : Bool}
end
end Go.Proofs.YtjijdabbhfefjaaGreatDoor

/- The signature of Gamma0(n), by its formula. -/
namespace Go.Proofs.YtjijdabbhfefjaaGreatDoor
open Go Go.RowKit Go.VG HP
def sigL (I G N2 N3 C R : Int) (M : Bool) : V1 := .agg [ix I, ix G, ix N2, ix N3, ix C, ix R, .x (.bool M)]
theorem within_sp (n : Int) : Sp CX 107 [int .i64 n] (bool (decide (1 ≤ n ∧ n ≤ 120))) := by
  refine fn_sp (C := CX) [] [] tysX_ok mixed Tryz.func107 rfl (by kernel_rfl) Tryz.ntmps107 rfl rfl ?_
  by_cases h1 : 1 ≤ n
  · by_cases h2 : n ≤ 120
    · repeat' ((conv => whnf); first | refine Ja ?_ | refine Jb ?_ | refine Jc ?_ | refine Jd ?_ | refine Je ?_ | refine Jf ?_ | refine Jg rfl ?_ | refine Jh rfl ?_ | refine Ji ?_ | refine Jj ?_ | refine Jk rfl ?_ | refine Jl ?_ | refine Jm ?_ | refine Jn rfl ?_ | refine Jo ?_ | refine Jp ?_ | refine Jq rfl ?_ | refine Jr ?_ | refine Js ?_ | refine Jt rfl ?_ | refine Ju ?_ | refine Jv ?_ | refine Jw ?_ | refine Jx rfl ?_)
      refine ⟨⟨_, _, rfl, rfl, ?_⟩⟩
      exact AvLe.bool (by simp [h1, h2])
    · repeat' ((conv => whnf); first | refine Ja ?_ | refine Jb ?_ | refine Jc ?_ | refine Jd ?_ | refine Je ?_ | refine Jf ?_ | refine Jg rfl ?_ | refine Jh rfl ?_ | refine Ji ?_ | refine Jj ?_ | refine Jk rfl ?_ | refine Jl ?_ | refine Jm ?_ | refine Jn rfl ?_ | refine Jo ?_ | refine Jp ?_ | refine Jq rfl ?_ | refine Jr ?_ | refine Js ?_ | refine Jt rfl ?_ | refine Ju ?_ | refine Jv ?_ | refine Jw ?_ | refine Jx rfl ?_)
      refine ⟨⟨_, _, rfl, rfl, ?_⟩⟩
      exact AvLe.bool (by simp [h2])
  · repeat' ((conv => whnf); first | refine Ja ?_ | refine Jb ?_ | refine Jc ?_ | refine Jd ?_ | refine Je ?_ | refine Jf ?_ | refine Jg rfl ?_ | refine Jh rfl ?_ | refine Ji ?_ | refine Jj ?_ | refine Jk rfl ?_ | refine Jl ?_ | refine Jm ?_ | refine Jn rfl ?_ | refine Jo ?_ | refine Jp ?_ | refine Jq rfl ?_ | refine Jr ?_ | refine Js ?_ | refine Jt rfl ?_ | refine Ju ?_ | refine Jv ?_ | refine Jw ?_ | refine Jx rfl ?_)
    refine ⟨⟨_, _, rfl, rfl, ?_⟩⟩
    exact AvLe.bool (by simp [h1])
def genV (I N2 N3 C : Int) : Int := (12 + I - 3 * N2 - 4 * N3 - 6 * C).tdiv 12
theorem genus_sp (I G N2 N3 C R : Int) (M : Bool) (h1 : -100000 ≤ I ∧ I ≤ 100000) (h2 : -100000 ≤ N2 ∧ N2 ≤ 100000) (h3 : -100000 ≤ N3 ∧ N3 ≤ 100000) (h4 : -100000 ≤ C ∧ C ≤ 100000) : Sp CX 110 [sigA I G N2 N3 C R M] (sigA I (genV I N2 N3 C) N2 N3 C R M) := by
  refine fn_sp (C := CX) [] [] tysX_ok mixed Tryz.func110 rfl (by kernel_rfl) Tryz.ntmps110 rfl rfl ?_
  repeat' ((conv => whnf); first | refine Ja ?_ | refine Jb ?_ | refine Jc ?_ | refine Jd ?_ | refine Je ?_ | refine Jf ?_ | refine Jg rfl ?_ | refine Jh rfl ?_ | refine Ji ?_ | refine Jj ?_ | refine Jk rfl ?_ | refine Jl ?_ | refine Jm ?_ | refine Jn rfl ?_ | refine Jo ?_ | refine Jp ?_ | refine Jq rfl ?_ | refine Jr ?_ | refine Js ?_ | refine Jt rfl ?_ | refine Ju ?_ | refine Jv ?_ | refine Jw ?_ | refine Jx rfl ?_)
  refine ⟨⟨_, _, rfl, rfl, ?_⟩⟩
  exact AvLe.refl _
theorem phi_sp (N : Nat) (hN0 : 1 ≤ N) (hN : N ≤ 2147483647) : Sp CX 81 [int .i64 N] (.tup [.c (ix (phi N)), .c (ix 0)]) :=
  .of_val (vs0 := [.int .i64 N]) (v := .tuple #[.int .i64 (phi N), .int .i64 0]) (callOk Tryz.func81 (by kernel_rfl) (by kernel_rfl)) rfl (fun _ _ _ h => argsX h) (fun _ _ => ⟨[_, _], rfl, ⟨rfl, rfl⟩, ⟨rfl, rfl⟩, trivial⟩) fun w _ => phi_any N w hN0 hN
def krF (D : Int) (p _ : Nat) : Int := 1 + kro D p
theorem krF_bd (D : Int) {n : Nat} (hn : 0 < n) (i : Nat) : 0 ≤ prodL (krF D) ((facs n).take i) ∧ prodL (krF D) ((facs n).take i) ≤ n := by
  have hx : facs n = (facs n).take i ++ (facs n).drop i := (List.take_append_drop i _).symm
  obtain ⟨c, d⟩ := prefix_pw hn hx
  have h := prodL_le (f := krF D) (g := pwF) ((facs n).take i) (fun x h => by
    obtain ⟨p, e⟩ := x
    have hm : (p, e) ∈ facs n := List.mem_of_mem_take h
    have hb := facs_bounds hn hm
    have h2 : p ^ 1 ≤ p ^ e := Nat.pow_le_pow_right (by omega) hb.2.2.1
    have e0 : pwF p e = ((p ^ e : Nat) : Int) := by unfold pwF; rw [Int.natCast_pow]
    rw [Nat.pow_one] at h2
    show 0 ≤ krF D p e ∧ krF D p e ≤ pwF p e
    rw [e0]
    unfold krF
    rcases kro_tri D p with k | k | k <;> omega)
  omega
def nu2 (n : Nat) : Int := if n % 4 = 0 then 0 else prodL (krF (-4)) (facs n)
def nu3 (n : Nat) : Int := if n % 9 = 0 then 0 else prodL (krF (-3)) (facs n)
def cspG (n d : Nat) : Int := phi (Nat.gcd d (n / d))
def cspN (n : Nat) : Int := sumG (cspG n) (dvs n)
theorem phi_sm {n : Nat} (h1 : 1 ≤ n) (h2 : n ≤ 120) : 0 ≤ phi n ∧ phi n ≤ 120 := by
  have h : allB 121 (fun n => decide (n = 0) || (decide (0 ≤ prodC phiF n) && decide (prodC phiF n ≤ 120))) = true := by decide +kernel
  have := allB_at h (show n < 121 by omega)
  simp only [Bool.or_eq_true, Bool.and_eq_true, decide_eq_true_eq] at this
  rw [phi_C h1 h2]
  exact this.resolve_left (by omega)
theorem cspG_bd {n d : Nat} (h1 : 1 ≤ n) (h2 : n ≤ 120) (hd : d ∣ n) : 0 ≤ cspG n d ∧ cspG n d ≤ 120 := by
  have hd1 := Nat.pos_of_dvd_of_pos hd h1
  have hd2 := Nat.le_of_dvd h1 hd
  have hg : 0 < Nat.gcd d (n / d) := Nat.gcd_pos_of_pos_left _ hd1
  have hg2 := Nat.le_of_dvd hd1 (Nat.gcd_dvd_left d (n / d))
  exact phi_sm hg (by omega)
theorem cspS_bd {n : Nat} (h1 : 1 ≤ n) (h2 : n ≤ 120) (i : Nat) : -15000 ≤ sumG (cspG n) ((dvs n).take i) ∧ sumG (cspG n) ((dvs n).take i) ≤ 15000 := by
  have h := sumG_bdm (G := cspG n) (B := 120) (by omega) ((dvs n).take i) fun d hd => by have := cspG_bd h1 h2 ((dvs_mem h1).1 (List.mem_of_mem_take hd)); omega
  have hl : ((dvs n).take i).length ≤ n + 1 := by
    rw [List.length_take]
    have : (dvs n).length ≤ n + 1 := by
      unfold dvs
      exact Nat.le_trans (List.length_filter_le _ _) (by simp)
    omega
  omega
set_option maxHeartbeats 8000000 in
theorem form0_ok (n : Nat) (n0 : 1 ≤ n) (n1 : n ≤ 120) : Sp CX 56 [int .i64 n] (.tup [sigL (psi n) (genV (psi n) (nu2 n) (nu3 n) (cspN n)) (nu2 n) (nu3 n) (cspN n) 0 true, .c (ix 0)]) := by
  obtain ⟨Z, len, hZ, hlen⟩ := zOf (facs n) (0, 0)
  obtain ⟨Y, lem, hY, hlem⟩ := zOf (dvs n) 0
  have hll : len ≤ 1000 := by have := facs_len (n := n) (by omega); omega
  have hlm : lem ≤ 121 := by
    rw [hlem]
    unfold dvs
    exact Nat.le_trans (List.length_filter_le _ _) (by simp; omega)
  have s := within_sp n
  rw [decide_eq_true (p := 1 ≤ (n : Int) ∧ (n : Int) ≤ 120) (by omega)] at s
  have hps := psi_small n0 n1
  refine fn_sp (C := CX) [(12,0),(14,0)] [] tysX_ok mixed Tryz.func56 rfl (by kernel_rfl) Tryz.ntmps56 rfl rfl ?_
  repeat' ((conv => whnf); first | refine Ja ?_ | refine Jb ?_ | refine Jc ?_ | refine Jd ?_ | refine Je ?_ | refine Jf ?_ | refine Jg rfl ?_ | refine Jh rfl ?_ | refine Ji ?_ | refine Jj ?_ | refine Jk rfl ?_ | refine Jl ?_ | refine Jm ?_ | refine Jn rfl ?_ | refine Jo ?_ | refine Jp ?_ | refine Jq rfl ?_ | refine Jr ?_ | refine Js ?_ | refine Jt rfl ?_ | refine Ju ?_ | refine Jv ?_ | refine Jw ?_ | refine Jx rfl ?_ | refine Jy s ?_ | refine Jy (psi_sp n (by omega) (by omega)) ?_ | refine Jy (factor_sp n Z len (fun i p e => hZ i (p, e)) hlen (by omega) (by omega)) ?_)
  refine ⟨⟨Nat × Int × Int, fun (i, x, y) => ⟨[(0, int .i64 n), (2, .v (.c (.loc 0 0))), (4, .v (.c (.loc 1 0))), (31, .v (.c (.sl 2 (Nat × Nat) ppL Z len))), (32, int .i64 len), (33, int .i64 i)], [(0, .st [ix 0, ix 0, ix 0, ix 0, ix 0, ix 0, .x (.bool false)]), (1, .st [ix (psi n), ix 0, ix x, ix y, ix 0, ix 0, .x (.bool true)])], 2⟩, fun (i, x, y) => i ≤ len ∧ x = prodL (krF (-4)) ((facs n).take i) ∧ y = prodL (krF (-3)) ((facs n).take i), fun (i, _, _) => len - i, ⟨(0, 1, 1), [], ⟨Nat.zero_le _, rfl, rfl⟩, Ent.g⟩, ?_⟩⟩
  rintro ⟨i, x, y⟩ ⟨k1, k2, k3⟩
  have b1 := krF_bd (-4) (n := n) (by omega) i
  have b2 := krF_bd (-3) (n := n) (by omega) i
  rw [← k2] at b1
  rw [← k3] at b2
  by_cases hd : i < len
  · have hfi : (facs n)[i]? = some ((Z i).1, (Z i).2) := by
      have h := List.getElem?_eq_getElem (l := facs n) (i := i) (by omega)
      rw [h, hZ i _ h]
    obtain ⟨m1, m2, m3, m4, m5, m6, m7⟩ := facs_bounds (by omega) (List.mem_of_getElem? hfi)
    have h1 := prodL_next (krF (-4)) hfi
    have h2 := prodL_next (krF (-3)) hfi
    have c1 := krF_bd (-4) (n := n) (by omega) (i + 1)
    have c2 := krF_bd (-3) (n := n) (by omega) (i + 1)
    rw [h1, ← k2] at c1
    rw [h2, ← k3] at c2
    rw [← k2] at h1
    rw [← k3] at h2
    unfold krF at h1 h2 c1 c2
    have t1 : -1 ≤ kro (-4) ((Z i).1 : Nat) ∧ kro (-4) ((Z i).1 : Nat) ≤ 1 := by rcases kro_tri (-4) ((Z i).1 : Nat) with h | h | h <;> omega
    have t2 : -1 ≤ kro (-3) ((Z i).1 : Nat) ∧ kro (-3) ((Z i).1 : Nat) ≤ 1 := by rcases kro_tri (-3) ((Z i).1 : Nat) with h | h | h <;> omega
    clear k2 k3
    repeat' ((conv => whnf); first | refine Ja ?_ | refine Jb ?_ | refine Jc ?_ | refine Jd ?_ | refine Je ?_ | refine Jf ?_ | refine Jg rfl ?_ | refine Jh rfl ?_ | refine Ji ?_ | refine Jj ?_ | refine Jk rfl ?_ | refine Jl ?_ | refine Jm ?_ | refine Jn rfl ?_ | refine Jo ?_ | refine Jp ?_ | refine Jq rfl ?_ | refine Jr ?_ | refine Js ?_ | refine Jt rfl ?_ | refine Ju ?_ | refine Jv ?_ | refine Jw ?_ | refine Jx rfl ?_ | refine Jy (kron_sp (-4) (Z i).1 (by omega) (by omega) (by omega) (by omega)) ?_ | refine Jy (kron_sp (-3) (Z i).1 (by omega) (by omega) (by omega) (by omega)) ?_)
    exact ⟨(i + 1, x * (1 + kro (-4) ((Z i).1 : Nat)), y * (1 + kro (-3) ((Z i).1 : Nat))), [], ⟨hd, h1.symm, h2.symm⟩, by show len - (i + 1) < len - i; omega, Ent.g⟩
  · obtain rfl : i = len := by omega
    rw [hlen, List.take_length] at k2 k3
    have e4 : (n : Int).tmod 4 = ((n % 4 : Nat) : Int) := (Int.ofNat_tmod n 4).symm
    have e9 : (n : Int).tmod 9 = ((n % 9 : Nat) : Int) := (Int.ofNat_tmod n 9).symm
    have n2 : nu2 n = if n % 4 = 0 then 0 else x := by unfold nu2; rw [k2]
    have n3 : nu3 n = if n % 9 = 0 then 0 else y := by unfold nu3; rw [k3]
    obtain ⟨u, hu⟩ : ∃ u, u = nu2 n := ⟨_, rfl⟩
    obtain ⟨v, hv⟩ : ∃ v, v = nu3 n := ⟨_, rfl⟩
    rw [← hu] at n2 ⊢
    rw [← hv] at n3 ⊢
    have hub : 0 ≤ u ∧ u ≤ 120 := by rw [n2]; split <;> omega
    have hvb : 0 ≤ v ∧ v ≤ 120 := by rw [n3]; split <;> omega
    clear k2 k3 hu hv
    repeat' ((conv => whnf); first | refine Ja ?_ | refine Jb ?_ | refine Jc ?_ | refine Jd ?_ | refine Je ?_ | refine Jf ?_ | refine Jg rfl ?_ | refine Jh rfl ?_ | refine Ji ?_ | refine Jj ?_ | refine Jk rfl ?_ | refine Jl ?_ | refine Jm ?_ | refine Jn rfl ?_ | refine Jo ?_ | refine Jp ?_ | refine Jq rfl ?_ | refine Jr ?_ | refine Js ?_ | refine Jt rfl ?_ | refine Ju ?_ | refine Jv ?_ | refine Jw ?_ | refine Jx rfl ?_)
    refine ⟨⟨Unit, fun _ => ⟨[(0, int .i64 n), (2, .v (.c (.loc 0 0))), (4, .v (.c (.loc 1 0)))], [(0, .st [ix 0, ix 0, ix 0, ix 0, ix 0, ix 0, .x (.bool false)]), (1, .st [ix (psi n), ix 0, ix u, ix y, ix 0, ix 0, .x (.bool true)])], 2⟩, fun _ => True, ?_, ?_⟩⟩
    · by_cases c : n % 4 = 0
      · have ct : decide ((n : Int).tmod 4 = 0) = true := decide_eq_true (by omega)
        rw [if_pos c] at n2
        subst n2
        repeat' ((conv => whnf); first | refine Ja ?_ | refine Jb ?_ | refine Jc ?_ | refine Jd ?_ | refine Je ?_ | refine Jf ?_ | refine Jg rfl ?_ | refine Jh rfl ?_ | refine Ji ?_ | refine Jj ?_ | refine Jk rfl ?_ | refine Jl ?_ | refine Jm ?_ | refine Jn rfl ?_ | refine Jo ?_ | refine Jp ?_ | refine Jq rfl ?_ | refine Jr ?_ | refine Js ?_ | refine Jt rfl ?_ | refine Ju ?_ | refine Jv ?_ | refine Jw ?_ | refine Jx rfl ?_)
        refine ⟨⟨Unit, fun _ => ⟨[(0, int .i64 n), (2, .v (.c (.loc 0 0))), (4, .v (.c (.loc 1 0))), (56, bool true)], [(0, .st [ix 0, ix 0, ix 0, ix 0, ix 0, ix 0, .x (.bool false)]), (1, .st [ix (psi n), ix 0, ix x, ix y, ix 0, ix 0, .x (.bool true)])], 2⟩, fun _ => True, ?_, ?_⟩⟩
        · repeat' ((conv => whnf); first | refine Ja ?_ | refine Jb ?_ | refine Jc ?_ | refine Jd ?_ | refine Je ?_ | refine Jf ?_ | refine Jg rfl ?_ | refine Jh rfl ?_ | refine Ji ?_ | refine Jj ?_ | refine Jk rfl ?_ | refine Jl ?_ | refine Jm ?_ | refine Jn rfl ?_ | refine Jo ?_ | refine Jp ?_ | refine Jq rfl ?_ | refine Jr ?_ | refine Js ?_ | refine Jt rfl ?_ | refine Ju ?_ | refine Jv ?_ | refine Jw ?_ | refine Jx rfl ?_)
          exact ⟨(), [], trivial, Ent.g⟩
        rintro - -
        repeat' ((conv => whnf); first | refine Ja ?_ | refine Jb ?_ | refine Jc ?_ | refine Jd ?_ | refine Je ?_ | refine Jf ?_ | refine Jg rfl ?_ | refine Jh rfl ?_ | refine Ji ?_ | refine Jj ?_ | refine Jk rfl ?_ | refine Jl ?_ | refine Jm ?_ | refine Jn rfl ?_ | refine Jo ?_ | refine Jp ?_ | refine Jq rfl ?_ | refine Jr ?_ | refine Js ?_ | refine Jt rfl ?_ | refine Ju ?_ | refine Jv ?_ | refine Jw ?_ | refine Jx rfl ?_)
        exact ⟨(), [], trivial, Ent.g⟩
      · have ct : decide ((n : Int).tmod 4 = 0) = false := decide_eq_false (by omega)
        rw [if_neg c] at n2
        subst n2
        repeat' ((conv => whnf); first | refine Ja ?_ | refine Jb ?_ | refine Jc ?_ | refine Jd ?_ | refine Je ?_ | refine Jf ?_ | refine Jg rfl ?_ | refine Jh rfl ?_ | refine Ji ?_ | refine Jj ?_ | refine Jk rfl ?_ | refine Jl ?_ | refine Jm ?_ | refine Jn rfl ?_ | refine Jo ?_ | refine Jp ?_ | refine Jq rfl ?_ | refine Jr ?_ | refine Js ?_ | refine Jt rfl ?_ | refine Ju ?_ | refine Jv ?_ | refine Jw ?_ | refine Jx rfl ?_)
        refine ⟨⟨Unit, fun _ => ⟨[(0, int .i64 n), (2, .v (.c (.loc 0 0))), (4, .v (.c (.loc 1 0))), (56, bool false)], [(0, .st [ix 0, ix 0, ix 0, ix 0, ix 0, ix 0, .x (.bool false)]), (1, .st [ix (psi n), ix 0, ix u, ix y, ix 0, ix 0, .x (.bool true)])], 2⟩, fun _ => True, ?_, ?_⟩⟩
        · repeat' ((conv => whnf); first | refine Ja ?_ | refine Jb ?_ | refine Jc ?_ | refine Jd ?_ | refine Je ?_ | refine Jf ?_ | refine Jg rfl ?_ | refine Jh rfl ?_ | refine Ji ?_ | refine Jj ?_ | refine Jk rfl ?_ | refine Jl ?_ | refine Jm ?_ | refine Jn rfl ?_ | refine Jo ?_ | refine Jp ?_ | refine Jq rfl ?_ | refine Jr ?_ | refine Js ?_ | refine Jt rfl ?_ | refine Ju ?_ | refine Jv ?_ | refine Jw ?_ | refine Jx rfl ?_)
          exact ⟨(), [], trivial, Ent.g⟩
        rintro - -
        repeat' ((conv => whnf); first | refine Ja ?_ | refine Jb ?_ | refine Jc ?_ | refine Jd ?_ | refine Je ?_ | refine Jf ?_ | refine Jg rfl ?_ | refine Jh rfl ?_ | refine Ji ?_ | refine Jj ?_ | refine Jk rfl ?_ | refine Jl ?_ | refine Jm ?_ | refine Jn rfl ?_ | refine Jo ?_ | refine Jp ?_ | refine Jq rfl ?_ | refine Jr ?_ | refine Js ?_ | refine Jt rfl ?_ | refine Ju ?_ | refine Jv ?_ | refine Jw ?_ | refine Jx rfl ?_)
        exact ⟨(), [], trivial, Ent.g⟩
    rintro - -
    clear n2 e4
    repeat' ((conv => whnf); first | refine Ja ?_ | refine Jb ?_ | refine Jc ?_ | refine Jd ?_ | refine Je ?_ | refine Jf ?_ | refine Jg rfl ?_ | refine Jh rfl ?_ | refine Ji ?_ | refine Jj ?_ | refine Jk rfl ?_ | refine Jl ?_ | refine Jm ?_ | refine Jn rfl ?_ | refine Jo ?_ | refine Jp ?_ | refine Jq rfl ?_ | refine Jr ?_ | refine Js ?_ | refine Jt rfl ?_ | refine Ju ?_ | refine Jv ?_ | refine Jw ?_ | refine Jx rfl ?_)
    refine ⟨⟨Unit, fun _ => ⟨[(0, int .i64 n), (2, .v (.c (.loc 0 0))), (4, .v (.c (.loc 1 0)))], [(0, .st [ix 0, ix 0, ix 0, ix 0, ix 0, ix 0, .x (.bool false)]), (1, .st [ix (psi n), ix 0, ix u, ix v, ix 0, ix 0, .x (.bool true)])], 2⟩, fun _ => True, ?_, ?_⟩⟩
    · by_cases c : n % 9 = 0
      · have ct : decide ((n : Int).tmod 9 = 0) = true := decide_eq_true (by omega)
        rw [if_pos c] at n3
        subst n3
        repeat' ((conv => whnf); first | refine Ja ?_ | refine Jb ?_ | refine Jc ?_ | refine Jd ?_ | refine Je ?_ | refine Jf ?_ | refine Jg rfl ?_ | refine Jh rfl ?_ | refine Ji ?_ | refine Jj ?_ | refine Jk rfl ?_ | refine Jl ?_ | refine Jm ?_ | refine Jn rfl ?_ | refine Jo ?_ | refine Jp ?_ | refine Jq rfl ?_ | refine Jr ?_ | refine Js ?_ | refine Jt rfl ?_ | refine Ju ?_ | refine Jv ?_ | refine Jw ?_ | refine Jx rfl ?_)
        refine ⟨⟨Unit, fun _ => ⟨[(0, int .i64 n), (2, .v (.c (.loc 0 0))), (4, .v (.c (.loc 1 0))), (60, bool true)], [(0, .st [ix 0, ix 0, ix 0, ix 0, ix 0, ix 0, .x (.bool false)]), (1, .st [ix (psi n), ix 0, ix u, ix y, ix 0, ix 0, .x (.bool true)])], 2⟩, fun _ => True, ?_, ?_⟩⟩
        · repeat' ((conv => whnf); first | refine Ja ?_ | refine Jb ?_ | refine Jc ?_ | refine Jd ?_ | refine Je ?_ | refine Jf ?_ | refine Jg rfl ?_ | refine Jh rfl ?_ | refine Ji ?_ | refine Jj ?_ | refine Jk rfl ?_ | refine Jl ?_ | refine Jm ?_ | refine Jn rfl ?_ | refine Jo ?_ | refine Jp ?_ | refine Jq rfl ?_ | refine Jr ?_ | refine Js ?_ | refine Jt rfl ?_ | refine Ju ?_ | refine Jv ?_ | refine Jw ?_ | refine Jx rfl ?_)
          exact ⟨(), [], trivial, Ent.g⟩
        rintro - -
        repeat' ((conv => whnf); first | refine Ja ?_ | refine Jb ?_ | refine Jc ?_ | refine Jd ?_ | refine Je ?_ | refine Jf ?_ | refine Jg rfl ?_ | refine Jh rfl ?_ | refine Ji ?_ | refine Jj ?_ | refine Jk rfl ?_ | refine Jl ?_ | refine Jm ?_ | refine Jn rfl ?_ | refine Jo ?_ | refine Jp ?_ | refine Jq rfl ?_ | refine Jr ?_ | refine Js ?_ | refine Jt rfl ?_ | refine Ju ?_ | refine Jv ?_ | refine Jw ?_ | refine Jx rfl ?_)
        exact ⟨(), [], trivial, Ent.g⟩
      · have ct : decide ((n : Int).tmod 9 = 0) = false := decide_eq_false (by omega)
        rw [if_neg c] at n3
        subst n3
        repeat' ((conv => whnf); first | refine Ja ?_ | refine Jb ?_ | refine Jc ?_ | refine Jd ?_ | refine Je ?_ | refine Jf ?_ | refine Jg rfl ?_ | refine Jh rfl ?_ | refine Ji ?_ | refine Jj ?_ | refine Jk rfl ?_ | refine Jl ?_ | refine Jm ?_ | refine Jn rfl ?_ | refine Jo ?_ | refine Jp ?_ | refine Jq rfl ?_ | refine Jr ?_ | refine Js ?_ | refine Jt rfl ?_ | refine Ju ?_ | refine Jv ?_ | refine Jw ?_ | refine Jx rfl ?_)
        refine ⟨⟨Unit, fun _ => ⟨[(0, int .i64 n), (2, .v (.c (.loc 0 0))), (4, .v (.c (.loc 1 0))), (60, bool false)], [(0, .st [ix 0, ix 0, ix 0, ix 0, ix 0, ix 0, .x (.bool false)]), (1, .st [ix (psi n), ix 0, ix u, ix v, ix 0, ix 0, .x (.bool true)])], 2⟩, fun _ => True, ?_, ?_⟩⟩
        · repeat' ((conv => whnf); first | refine Ja ?_ | refine Jb ?_ | refine Jc ?_ | refine Jd ?_ | refine Je ?_ | refine Jf ?_ | refine Jg rfl ?_ | refine Jh rfl ?_ | refine Ji ?_ | refine Jj ?_ | refine Jk rfl ?_ | refine Jl ?_ | refine Jm ?_ | refine Jn rfl ?_ | refine Jo ?_ | refine Jp ?_ | refine Jq rfl ?_ | refine Jr ?_ | refine Js ?_ | refine Jt rfl ?_ | refine Ju ?_ | refine Jv ?_ | refine Jw ?_ | refine Jx rfl ?_)
          exact ⟨(), [], trivial, Ent.g⟩
        rintro - -
        repeat' ((conv => whnf); first | refine Ja ?_ | refine Jb ?_ | refine Jc ?_ | refine Jd ?_ | refine Je ?_ | refine Jf ?_ | refine Jg rfl ?_ | refine Jh rfl ?_ | refine Ji ?_ | refine Jj ?_ | refine Jk rfl ?_ | refine Jl ?_ | refine Jm ?_ | refine Jn rfl ?_ | refine Jo ?_ | refine Jp ?_ | refine Jq rfl ?_ | refine Jr ?_ | refine Js ?_ | refine Jt rfl ?_ | refine Ju ?_ | refine Jv ?_ | refine Jw ?_ | refine Jx rfl ?_)
        exact ⟨(), [], trivial, Ent.g⟩
    rintro - -
    clear n3 e9
    repeat' ((conv => whnf); first | refine Ja ?_ | refine Jb ?_ | refine Jc ?_ | refine Jd ?_ | refine Je ?_ | refine Jf ?_ | refine Jg rfl ?_ | refine Jh rfl ?_ | refine Ji ?_ | refine Jj ?_ | refine Jk rfl ?_ | refine Jl ?_ | refine Jm ?_ | refine Jn rfl ?_ | refine Jo ?_ | refine Jp ?_ | refine Jq rfl ?_ | refine Jr ?_ | refine Js ?_ | refine Jt rfl ?_ | refine Ju ?_ | refine Jv ?_ | refine Jw ?_ | refine Jx rfl ?_ | refine Jy (divisors_sp n Y lem (fun i x => hY i x) hlem n0 (by omega)) ?_)
    refine ⟨⟨Nat × Int, fun (i, z) => ⟨[(0, int .i64 n), (2, .v (.c (.loc 0 0))), (4, .v (.c (.loc 1 0))), (67, .v (.c (.sl 1 Nat (fun z _ => ix z) Y lem))), (68, int .i64 lem), (69, int .i64 i)], [(0, .st [ix 0, ix 0, ix 0, ix 0, ix 0, ix 0, .x (.bool false)]), (1, .st [ix (psi n), ix 0, ix u, ix v, ix z, ix 0, .x (.bool true)])], 2⟩, fun (i, z) => i ≤ lem ∧ z = sumG (cspG n) ((dvs n).take i), fun (i, _) => lem - i, ⟨(0, 0), [], ⟨Nat.zero_le _, rfl⟩, Ent.g⟩, ?_⟩⟩
    rintro ⟨i, z⟩ ⟨k1, k2⟩
    have b0 := cspS_bd n0 n1 i
    rw [← k2] at b0
    by_cases hd : i < lem
    · have hat : (dvs n)[i]? = some (Y i) := by
        have h := List.getElem?_eq_getElem (l := dvs n) (i := i) (by omega)
        rw [h, hY i _ h]
      have hdv : Y i ∣ n := (dvs_mem n0).1 (List.mem_of_getElem? hat)
      have hs := sumG_next (cspG n) hat
      rw [← k2] at hs
      have hb := cspG_bd n0 n1 hdv
      have hz1 := Nat.pos_of_dvd_of_pos hdv n0
      have hz2 := Nat.le_of_dvd n0 hdv
      have hq1 : 0 < n / Y i := Nat.div_pos hz2 hz1
      have hq2 := Nat.div_le_self n (Y i)
      have eq : (n : Int).tdiv (Y i) = ((n / Y i : Nat) : Int) := (Int.ofNat_tdiv n (Y i)).symm
      have hg1 : 0 < Nat.gcd (Y i) (n / Y i) := Nat.gcd_pos_of_pos_left _ hz1
      have hg2 := Nat.le_of_dvd hz1 (Nat.gcd_dvd_left (Y i) (n / Y i))
      have s4 := gcd_sp (Y i) (n / Y i : Nat) (by omega) (by omega) (by omega) (by omega)
      rw [gcdW_eq (by omega) (by omega) (by omega) (by omega), show Int.gcd (Y i) (n / Y i : Nat) = Nat.gcd (Y i) (n / Y i) from rfl] at s4
      unfold cspG at hs hb
      clear k2
      repeat' ((conv => whnf); first | refine Ja ?_ | refine Jb ?_ | refine Jc ?_ | refine Jd ?_ | refine Je ?_ | refine Jf ?_ | refine Jg rfl ?_ | refine Jh rfl ?_ | refine Ji ?_ | refine Jj ?_ | refine Jk rfl ?_ | refine Jl ?_ | refine Jm ?_ | refine Jn rfl ?_ | refine Jo ?_ | refine Jp ?_ | refine Jq rfl ?_ | refine Jr ?_ | refine Js ?_ | refine Jt rfl ?_ | refine Ju ?_ | refine Jv ?_ | refine Jw ?_ | refine Jx rfl ?_ | refine Sp.call (s4) (.cons (.refl _) (.cons (AvLe.int (by omega)) .nil)) rfl (AvLe.refl _) ?_ | refine Jy (phi_sp (Nat.gcd (Y i) (n / Y i)) (by omega) (by omega)) ?_)
      exact ⟨(i + 1, z + phi (Nat.gcd (Y i) (n / Y i))), [], ⟨hd, hs.symm⟩, by show lem - (i + 1) < lem - i; omega, Ent.g⟩
    · obtain rfl : i = lem := by omega
      rw [hlem, List.take_length] at k2
      have e : z = cspN n := k2
      rw [← e]
      clear k2 e
      repeat' ((conv => whnf); first | refine Ja ?_ | refine Jb ?_ | refine Jc ?_ | refine Jd ?_ | refine Je ?_ | refine Jf ?_ | refine Jg rfl ?_ | refine Jh rfl ?_ | refine Ji ?_ | refine Jj ?_ | refine Jk rfl ?_ | refine Jl ?_ | refine Jm ?_ | refine Jn rfl ?_ | refine Jo ?_ | refine Jp ?_ | refine Jq rfl ?_ | refine Jr ?_ | refine Js ?_ | refine Jt rfl ?_ | refine Ju ?_ | refine Jv ?_ | refine Jw ?_ | refine Jx rfl ?_ | refine Jy (genus_sp (psi n) 0 u v z 0 true (by omega) (by omega) (by omega) (by omega)) ?_)
      refine ⟨⟨_, _, rfl, rfl, ?_⟩⟩
      exact AvLe.refl _
end Go.Proofs.YtjijdabbhfefjaaGreatDoor

/- What the kernel can reckon; the fixed calls. -/
namespace Go.Proofs.YtjijdabbhfefjaaGreatDoor
open Go Go.RowKit Go.VG HP
def jacC (D : Int) (a : Nat) : Int := prodL (fun p e => symV D p ^ e) (facC a)
theorem jac_C {D : Int} {a : Nat} (h1 : 1 ≤ a) (h2 : a ≤ 120) : jac D a = jacC D a := by
  unfold jac jacC
  rw [ext_facs _ _ h1, ← facs_C h1 h2]
  refine prodL_congr _ fun x hx => ?_
  have := facs_mem h1 x hx
  rw [symV_kr this.1 (Nat.le_trans (Nat.le_of_dvd h1 this.2.2) h2)]
theorem rootR_congr {n c : Nat} {g h : Nat → Int} : ∀ m : Nat, (∀ a, 1 ≤ a → a ≤ m → g a = h a) → rootR n c g m = rootR n c h m
  | 0, _ => rfl
  | m + 1, H => by
    rw [rootR, rootR, rootR_congr m fun a h1 h2 => H a h1 (by omega), H (m + 1) (by omega) (Nat.le_refl _)]
def dimT (k f : Nat) (P L x y : Int) : Int :=
  ((k : Int) - 1) * P - 6 * L + (if k = 2 ∧ f = 1 then 12 else 0) + (if k % 4 = 0 then 3 * x else if k % 4 = 2 then -(3 * x) else 0) + (if k % 3 = 0 then 2 * y else if k % 3 = 2 then -(2 * y) else 0)
def fourC (n : Nat) (D : Int) : Int := rootR n 0 (fun a => jacC D a) n
def threeC (n : Nat) (D : Int) : Int := rootR n 1 (fun a => 2 * jacC D a) n
def cuspC (n k : Nat) (D : Int) : Int := (dimT k D.natAbs (prodC psiF n) (prodC (lamG D.natAbs) n) (fourC n D) (threeC n D)).tdiv 12
theorem cusp_C {n k : Nat} {D : Int} (h1 : 1 ≤ n) (h2 : n ≤ 120) (h0 : D ≠ 0) : cuspV n k D = cuspC n k D := by
  have e1 : rootR n 0 (fun a => jac D a) n = fourC n D := rootR_congr (g := fun a => jac D a) (h := fun a => jacC D a) n fun a x y => jac_C x (by omega)
  have e2 : rootR n 1 (fun a => 2 * jac D a) n = threeC n D := rootR_congr (g := fun a => 2 * jac D a) (h := fun a => 2 * jacC D a) n fun a x y => by
    show 2 * jac D a = 2 * jacC D a
    rw [jac_C x (by omega)]
  unfold cuspV cuspC
  rw [e1, e2]
  unfold dim12 dimT
  rw [psi_C h1 h2, lam_C (by omega) h1 h2]
theorem sumG_congr {G H : Nat → Int} : ∀ l : List Nat, (∀ x ∈ l, G x = H x) → sumG G l = sumG H l
  | [], _ => rfl
  | x :: l, h => by rw [sumG, sumG, h x (List.mem_cons_self ..), sumG_congr l fun y hy => h y (List.mem_cons_of_mem _ hy)]
theorem dok3 : DOk 11 2 1 := by
  refine ⟨by omega, by omega, by omega, by omega, by omega, by omega, by omega, by omega, .inl rfl, by decide, by decide, ?_⟩
  rw [psi_C (by omega) (by omega)]
  decide +kernel
end Go.Proofs.YtjijdabbhfefjaaGreatDoor

