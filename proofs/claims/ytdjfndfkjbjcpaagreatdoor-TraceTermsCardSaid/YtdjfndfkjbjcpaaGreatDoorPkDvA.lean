/- Own texts joined: DvA, DvB, DvG, DvH, DvE, DvF, DvC, DvD. -/
import Derived.Test.YtdjfndfkjbjcpaaGreatDoorPkBnA
import Derived.Test.YtdjfndfkjbjcpaaGreatDoorPkNumK
import Derived.Test.YtdjfndfkjbjcpaaGreatDoorVgS
/- Bigints in letters: words, copies, division by one digit. -/
namespace Go.Proofs.YtdjfndfkjbjcpaaGreatDoor
open Go Go.RowKit Go.VG HP
theorem spR_fr {C : Ctx} {f : FuncId} {args : List AV} {k : Nat} {e : TypeId} {α : Type} {mk : α → Nat → Leaf} {Z : Nat → α} {n : Nat} (h : SpR C f args k e α mk Z n) (hcl : avB [] (.v (.c (.sl k α mk Z n))) = true) : Sp C f args (.v (.c (.sl k α mk Z n))) := by
  refine ⟨h.ok, hcl, fun O w vs h1 h2 h3 => (h.w O w vs h1 h2 h3).mono ?_⟩
  rintro en w' ⟨v, he, hb, hv⟩
  refine ⟨v, he, hb, fun ρ' w'' hx => ?_⟩
  rcases hv with ⟨rfl, rfl⟩ | ⟨g, cap, c, rfl, hg, g1, g2, g3, g4, g5, g6⟩
  · exact ⟨rfl, sl_nil ρ'⟩
  · have hlt : g < w'.heap.size := (Array.getElem?_eq_some_iff.1 g1).1
    have hk : w''.heap[g]? = w'.heap[g]? := hx.keep g hlt fun ho => by have := (h1 g ho).1; omega
    refine ⟨rfl, some ⟨g, 0, none⟩, cap, rfl, g2, fun h => (by cases h), fun g' off sp h => ?_⟩
    cases h
    refine ⟨rfl, fun i j hi hj => ?_⟩
    obtain ⟨_, x, x1, x2, x3⟩ := g6 i j hi hj
    refine ⟨x, ?_, x2, fun ρ'' => x3 ρ'' w'' (hx.mono fun q _ hq => .inl hq)⟩
    rw [Nat.zero_add]
    unfold World.cell?
    rw [hk, g1]
    exact x1
set_option maxHeartbeats 4000000 in
theorem Div32_sp (h l d : Nat) (hh : h < d) (hl : l < 4294967296) (hd : d < 4294967296) : Sp CX 179 [int .u32 h, int .u32 l, int .u32 d] (.tup [.c (.x (.int .u32 ((h * 4294967296 + l) / d : Nat))), .c (.x (.int .u32 ((h * 4294967296 + l) % d : Nat)))]) := by
  obtain ⟨z, hz⟩ : ∃ z, z = h * 4294967296 + l := ⟨_, rfl⟩
  have hzl : z < d * 4294967296 := by omega
  have hq : z / d < 4294967296 := Nat.div_lt_of_lt_mul hzl
  have hr : z % d < d := Nat.mod_lt _ (by omega)
  have eq : (z : Int).tdiv d = ((z / d : Nat) : Int) := (Int.ofNat_tdiv z d).symm
  have er : (z : Int).tmod d = ((z % d : Nat) : Int) := (Int.ofNat_tmod z d).symm
  have eo : (d : Int) ≠ 0 ∧ InK .u64 ((z : Int).tdiv d) := ⟨by omega, by
    rw [eq]
    show (0 : Int) ≤ ((z / d : Nat) : Int) ∧ ((z / d : Nat) : Int) ≤ 18446744073709551615
    generalize z / d = q at *
    omega⟩
  have eb : bitz .u64 .or ((h : Int) * 4294967296) (l : Int) = (z : Int) := by
    rw [bitz_or (.inr rfl) (A := h) (s := 32) (n := l) (by omega) rfl (by omega) (by show _ < 18446744073709551616; omega)]
    omega
  rw [← hz]
  refine fn_sp (C := CX) [] [] tysX_ok mixed Tryz.func179 rfl (by kernel_rfl) Tryz.ntmps179 rfl rfl ?_
  repeat' ((conv => whnf); first | (refine Ob.mk eo ?_) | (refine BitOb.mk' _ eb ?_) | refine Ja ?_ | refine Jb ?_ | refine Jc ?_ | refine Je ?_ | refine Jf ?_ | refine Ji ?_ | refine Jj ?_ | refine Jk rfl ?_)
  refine ⟨⟨_, _, rfl, rfl, ?_⟩⟩
  rw [eq, er]
  generalize z / d = q at *
  generalize z % d = r at *
  exact .tup (.cons (.int (by omega)) (.cons (.int (by omega)) .nil))
theorem lz_sp (x : Nat) (hx : x < 4294967296) : Sp CX 174 [int .u32 x] (int .i64 (32 - (Lib.bitLen x : Int))) := by
  have hb : Lib.bitLen x ≤ 32 := Lib.bitLen_le x 32 (by omega) (by omega)
  have s1 : Sp CX 128 [int .u32 x] (int .i64 (Lib.bitLen x)) :=
    .of_val (vs0 := [.int .u32 x]) (callOk Tryz.func128 (by kernel_rfl) (by kernel_rfl)) rfl (fun _ _ _ h => argsX h) (fun _ _ => ⟨rfl, rfl⟩) fun w _ => (Tryz.bits_Len32 x w (by omega) (by omega)).mono fun _ _ ⟨h, e⟩ => ⟨by rw [h]; simp, e ▸ Below.refl _ _⟩
  refine fn_sp (C := CX) [] [] tysX_ok mixed Tryz.func174 rfl (by kernel_rfl) Tryz.ntmps174 rfl rfl ?_
  repeat' ((conv => whnf); first | refine Jb ?_ | refine Jy s1 ?_)
  refine ⟨⟨_, _, rfl, rfl, ?_⟩⟩
  exact .int (by omega)
theorem two_dg {x : Nat} (h : ln x ≤ 2) : dg x 1 * 4294967296 + dg x 0 = x := by
  have l := lt_ln x
  have l2 : x < W32 ^ 2 := Nat.lt_of_lt_of_le l (w32_mono h)
  have v := valF_dg' l2
  simp only [valF, Nat.pow_zero, Nat.pow_one, Nat.mul_one, w32_eq] at v
  omega
set_option maxHeartbeats 4000000 in
theorem word_sp (x : Nat) (h : ln x ≤ 2) : Sp CX 163 [dsA x (ln x)] (int .u64 x) := by
  have d0 := dg32 x 0
  have d1 := dg32 x 1
  have e := two_dg h
  by_cases h0 : ln x = 0
  · have hx := zero_of_ln h0
    refine fn_sp (C := CX) [] [] tysX_ok mixed Tryz.func163 rfl (by kernel_rfl) Tryz.ntmps163 rfl rfl ?_
    repeat' ((conv => whnf); first | refine Je ?_)
    refine ⟨⟨_, _, rfl, rfl, ?_⟩⟩
    exact .int (by omega)
  · by_cases h1 : ln x = 1
    · obtain ⟨d, hd⟩ := one_dg h1
      refine fn_sp (C := CX) [] [] tysX_ok mixed Tryz.func163 rfl (by kernel_rfl) Tryz.ntmps163 rfl rfl ?_
      repeat' ((conv => whnf); first | (refine Idx.mk ⟨0, rfl, by omega, ?_⟩) | refine Jb ?_ | refine Je ?_ | refine Jf ?_)
      refine ⟨⟨_, _, rfl, rfl, ?_⟩⟩
      exact .int (by omega)
    · have h2 : ln x = 2 := by omega
      have eb : bitz .u64 .or ((dg x 1 : Int) * 4294967296) (dg x 0 : Int) = (x : Int) := by
        rw [bitz_or (.inr rfl) (A := dg x 1) (s := 32) (n := dg x 0) (by omega) rfl (by omega) (by show _ < 18446744073709551616; omega)]
        omega
      refine fn_sp (C := CX) [] [] tysX_ok mixed Tryz.func163 rfl (by kernel_rfl) Tryz.ntmps163 rfl rfl ?_
      repeat' ((conv => whnf); first | (refine Idx.mk ⟨1, rfl, by omega, ?_⟩) | (refine Idx.mk ⟨0, rfl, by omega, ?_⟩) | (refine BitOb.mk' _ eb ?_) | refine Jb ?_ | refine Jf ?_ | refine Ji ?_ | refine Jj ?_ | refine Jk rfl ?_)
      refine ⟨⟨_, _, rfl, rfl, ?_⟩⟩
      exact AvLe.refl _
structure ShI (x d k r : Nat) (H : Nat → Nat) : Prop where
  r : r = x / W32 ^ k % d
  q : ∀ i, k ≤ i → H i = dg (x / d) i
theorem ShI.start {x d : Nat} : ShI x d (ln x) 0 (fun _ => 0) := by
  refine ⟨by rw [Nat.div_eq_of_lt (lt_ln x), Nat.zero_mod], fun i hi => ?_⟩
  exact (dg_out (Nat.le_trans (ln_mono (Nat.div_le_self x d)) hi)).symm
theorem ShI.step {x d k r : Nat} {H : Nat → Nat} (hd : 0 < d) (h : ShI x d (k + 1) r H) : ShI x d k ((r * 4294967296 + dg x k) % d) (setZ Nat H k ((r * 4294967296 + dg x k) / d)) := by
  obtain ⟨e1, e2, _⟩ := short_step (x := x) (d := d) (i := k) hd h.r
  refine ⟨e2, fun i hi => ?_⟩
  unfold setZ
  by_cases hk : i = k
  · subst hk
    rw [if_pos rfl]
    exact e1
  · rw [if_neg hk]
    exact h.q i (by omega)
set_option maxHeartbeats 8000000 in
set_option maxRecDepth 20000 in
theorem short_sp (x d : Nat) (hd0 : 0 < d) (hd : d < 4294967296) (hx : ln x ≤ 1000000) : Sp CX 173 [dsA x (ln x), int .u32 d] (.tup [.c (dsL (x / d) (ln x)), .c (.x (.int .u32 (x % d : Nat)))]) := by
  refine fn_sp (C := CX) [] [0] tysX_ok mixed Tryz.func173 rfl (by kernel_rfl) Tryz.ntmps173 rfl rfl ?_
  repeat' ((conv => whnf); first | (refine Ob.mk ⟨rfl, by omega, by decide⟩ ?_) | refine Ja ?_)
  refine ⟨⟨Nat, uL, fun _ => 0, ln x, rfl, mk_u32 _, ?_⟩⟩
  repeat' ((conv => whnf); first | refine Jb ?_)
  refine ⟨⟨Nat × Nat × (Nat → Nat), fun (k, r, H) => ⟨[(0, dsA x (ln x)), (1, int .u32 d), (6, .v (.c (.row 0))), (7, int .u32 r), (8, int .i64 ((k : Int) - 1))], [(0, .rw 1 60 false Nat uL H (ln x))], 1⟩, fun (k, r, H) => k ≤ ln x ∧ ShI x d k r H, fun (k, _, _) => k, ⟨(ln x, 0, fun _ => 0), [], ⟨Nat.le_refl _, ShI.start⟩, Ent.g⟩, ?_⟩⟩
  rintro ⟨k, r, H⟩ ⟨k1, hI⟩
  by_cases h0 : k = 0
  · subst h0
    have hf := hI.q
    have hr : r = x % d := by rw [hI.r, Nat.pow_zero, Nat.div_one]
    clear hI
    repeat' ((conv => whnf); first | refine Jf ?_)
    refine ⟨⟨_, _, rfl, rfl, ?_⟩⟩
    exact .tup (.cons (.leaf (dsL_le fun i _ => hf i (Nat.zero_le _))) (.cons (.int (by rw [hr])) .nil))
  · obtain ⟨q, rfl⟩ : ∃ q, k = q + 1 := ⟨k - 1, by omega⟩
    have hn := hI.step hd0
    have hr : r < d := by rw [hI.r]; exact Nat.mod_lt _ hd0
    have s := Div32_sp r (dg x q) d hr (dg32 x q) hd
    clear hI
    repeat' ((conv => whnf); first | (refine Idx.mk ⟨q, by omega, by omega, ?_⟩) | refine Ja ?_ | refine Je ?_ | refine Jy s ?_)
    refine ⟨⟨_, rfl, ?_⟩⟩
    repeat' ((conv => whnf); first | refine Jb ?_)
    exact ⟨(q, _, _), [], ⟨by omega, hn⟩, by show q < q + 1; omega, Ent.g⟩
structure SlI (x s i : Nat) (H : Nat → Nat) : Prop where
  lo : ∀ j, j < i → H j = dg (x * 2 ^ s) j
  hi : H i = if i = 0 then 0 else dg x (i - 1) * 2 ^ s / W32
  up : ∀ j, i < j → H j = 0
theorem SlI.step {x s i : Nat} {H : Nat → Nat} (hs : s ≤ 31) (h : SlI x s i H) : SlI x s (i + 1) (setZ Nat (setZ Nat H i (dg x i * 2 ^ s % W32 + H i)) (i + 1) (dg x i * 2 ^ s / W32)) := by
  refine ⟨fun j hj => ?_, ?_, fun j hj => ?_⟩
  · unfold setZ
    rw [if_neg (by omega)]
    by_cases e : j = i
    · subst e
      rw [if_pos rfl, h.hi]
      by_cases h0 : j = 0
      · subst h0
        rw [if_pos rfl, shl_zero, Nat.add_zero]
      · obtain ⟨q, rfl⟩ : ∃ q, j = q + 1 := ⟨j - 1, by omega⟩
        rw [if_neg h0, Nat.add_sub_cancel, shl_dg hs]
    · rw [if_neg e]
      exact h.lo j (by omega)
  · unfold setZ
    rw [if_pos rfl, if_neg (by omega), Nat.add_sub_cancel]
  · unfold setZ
    rw [if_neg (by omega), if_neg (by omega)]
    exact h.up j (by omega)
theorem SlI.fin {x s : Nat} {H : Nat → Nat} (hs : s ≤ 31) (h : SlI x s (ln x) H) : ∀ j, j < ln x + 1 → H j = dg (x * 2 ^ s) j := fun j hj => by
  by_cases e : j = ln x
  · rw [e, h.hi]
    by_cases h0 : ln x = 0
    · rw [if_pos h0, h0]
      have := zero_of_ln h0
      subst this
      rw [Nat.zero_mul]
      rfl
    · obtain ⟨q, hq⟩ : ∃ q, ln x = q + 1 := ⟨ln x - 1, by omega⟩
      rw [if_neg h0, hq, Nat.add_sub_cancel, shl_dg hs, ← hq, dg_out (Nat.le_refl _), Nat.zero_mul, Nat.zero_mod, Nat.zero_add]
  · exact h.lo j (by omega)
theorem pow31 {s : Nat} (hs : s ≤ 31) : 1 ≤ 2 ^ s ∧ 2 ^ s ≤ 2147483648 := ⟨Nat.pow_pos (by omega), Nat.pow_le_pow_right (n := 2) (by omega) hs⟩
theorem shl_bd {d s : Nat} (hd : d < 4294967296) (hs : s ≤ 31) : d * 2 ^ s < 9223372036854775808 := by
  have h := pow31 hs
  have : d * 2 ^ s ≤ 4294967295 * 2147483648 := Nat.mul_le_mul (by omega) h.2
  omega
theorem bitz_or_comm {k : IntKind} {a b : Int} : bitz k .or a b = bitz k .or b a := by
  show k.wrap _ = k.wrap _
  rw [BitVec.or_comm]
set_option maxHeartbeats 8000000 in
set_option maxRecDepth 20000 in
theorem shifted_sp (x s : Nat) (hs : s ≤ 31) (hx : ln x ≤ 1000000) : SpR CX 175 [dsA x (ln x), int .u64 s] 1 60 Nat uL (dg (x * 2 ^ s)) (ln x + 1) := by
  refine fn_spR (C := CX) [] tysX_ok mixed Tryz.func175 rfl (by kernel_rfl) Tryz.ntmps175 rfl ?_
  repeat' ((conv => whnf); first | (refine Ob.mk ⟨rfl, by omega, by decide⟩ ?_) | refine Jb ?_)
  refine ⟨⟨Nat, uL, fun _ => 0, ln x + 1, by push_cast; rfl, mk_u32 _, ?_⟩⟩
  repeat' ((conv => whnf); first | refine Ja ?_)
  refine ⟨⟨Nat × (Nat → Nat), fun (i, H) => ⟨[(1, int .u64 s), (5, .v (.c (.row 0))), (13, dsA x (ln x)), (14, int .i64 (ln x)), (15, int .i64 i)], [(0, .rw 1 60 false Nat uL H (ln x + 1))], 1⟩, fun (i, H) => i ≤ ln x ∧ SlI x s i H, fun (i, _) => ln x - i, ⟨(0, fun _ => 0), [], ⟨Nat.zero_le _, ⟨fun j hj => absurd hj (Nat.not_lt_zero _), rfl, fun _ _ => rfl⟩⟩, Ent.g⟩, ?_⟩⟩
  rintro ⟨i, H⟩ ⟨i1, hI⟩
  by_cases hi : i < ln x
  · have hn := hI.step hs
    have d0 := dg32 x i
    have hsb : Nat.beq (s : Int).toNat 32 = false := nbeq_f (by omega)
    have hb := shl_bd (dg32 x i) hs
    have hh := shl_small (s := s) hs (y := dg x (i - 1)) (by rw [w32_eq]; exact dg32 x (i - 1))
    have ew : IntKind.u64.wrap ((dg x i : Int) * ((2 ^ s : Nat) : Int)) = ((dg x i * 2 ^ s : Nat) : Int) := by
      rw [← Int.natCast_mul]
      exact wrap_in (by simp only [InK]; omega)
    have hH : H i < 2 ^ s := by
      rw [hI.hi]
      split
      · exact (pow31 hs).1
      · exact hh
    have hm := (shl_hi (s := s) (y := dg x i) hs).2
    have hp := pow31 hs
    have hsum : dg x i * 2 ^ s % W32 + H i < 4294967296 := by
      have a := (shl_hi (s := s) (y := dg x i) hs).2
      have b : dg x i % 2 ^ (32 - s) < 2 ^ (32 - s) := Nat.mod_lt _ (Nat.pow_pos (by omega))
      have c : (dg x i % 2 ^ (32 - s) + 1) * 2 ^ s ≤ 2 ^ (32 - s) * 2 ^ s := Nat.mul_le_mul_right _ b
      rw [Nat.add_mul, Nat.one_mul, Nat.mul_comm (2 ^ (32 - s)), ← w32_cut hs, w32_eq] at c
      rw [w32_eq] at a ⊢
      omega
    have eb : bitz .u32 .or (H i : Int) (((dg x i * 2 ^ s : Nat) : Int) % 4294967296) = ((dg x i * 2 ^ s % W32 + H i : Nat) : Int) := by
      have := bitz_or (k := .u32) (.inl rfl) (a := ((dg x i * 2 ^ s % W32 : Nat) : Int)) (b := (H i : Int)) (A := dg x i % 2 ^ (32 - s)) (s := s) (n := H i) (by rw [hm]) rfl hH (by rw [← hm]; exact hsum)
      rw [show (((dg x i * 2 ^ s : Nat) : Int) % 4294967296) = ((dg x i * 2 ^ s % W32 : Nat) : Int) by rw [w32_eq]; omega, bitz_or_comm, this]
      push_cast
      rfl
    have eh : ((dg x i * 2 ^ s : Nat) : Int) / 4294967296 = ((dg x i * 2 ^ s / W32 : Nat) : Int) := by rw [w32_eq]; omega
    have ehl : dg x i * 2 ^ s / W32 < 4294967296 := by rw [w32_eq]; omega
    generalize dg x i * 2 ^ s = P at *
    clear hI hm hh hH
    repeat' ((conv => whnf); first | (refine Ob.mk ⟨rfl, by omega, by decide⟩ ?_) | (refine Ob.mk ⟨Int.natCast_nonneg s, (by show s ≤ 64; omega)⟩ ?_) | (refine WrOb.mk ⟨_, ew, ?_⟩) | (refine BitOb.mk' _ eb ?_) | refine Ja ?_ | refine Jb ?_ | refine Jc ?_ | refine Je ?_ | refine Jg rfl ?_ | (rw [hsb]))
    refine ⟨⟨_, rfl, ?_⟩⟩
    repeat' ((conv => whnf); first | (refine Idx.mk ⟨i + 1, by omega, by omega, ?_⟩) | refine Ja ?_ | refine Jb ?_)
    refine ⟨⟨P / W32, congrArg (fun q => [Leaf.x (.int .u32 q)]) (by omega), ?_⟩⟩
    repeat' ((conv => whnf); first | refine Jb ?_)
    exact ⟨(i + 1, _), [], ⟨hi, hn⟩, by show ln x - (i + 1) < ln x - i; omega, Ent.g⟩
  · obtain rfl : i = ln x := by omega
    have hf := hI.fin hs
    clear hI
    repeat' ((conv => whnf); first | refine Jf ?_)
    refine ⟨⟨_, _, _, rfl, rfl, rfl, ?_⟩⟩
    exact .rw (fun i j hi _ => by rw [hf i hi]; exact .refl _) fun i j _ _ => rfl
set_option maxHeartbeats 8000000 in
set_option maxRecDepth 20000 in
theorem unshifted_sp (y n s : Nat) (hs : s ≤ 31) (hy : ln y ≤ n) (hn : n ≤ 1000000) : Sp CX 177 [dsA y n, int .u64 s] (dsA (y / 2 ^ s) n) := by
  refine fn_sp (C := CX) [] [0] tysX_ok mixed Tryz.func177 rfl (by kernel_rfl) Tryz.ntmps177 rfl rfl ?_
  repeat' ((conv => whnf); first | (refine Ob.mk ⟨rfl, by omega, by decide⟩ ?_) | refine Ja ?_)
  refine ⟨⟨Nat, uL, fun _ => 0, n, rfl, mk_u32 _, ?_⟩⟩
  repeat' ((conv => whnf); first | refine Ja ?_)
  refine ⟨⟨Nat × (Nat → Nat), fun (i, H) => ⟨[(0, dsA y n), (1, int .u64 s), (5, .v (.c (.row 0))), (12, int .i64 n), (13, int .i64 i)], [(0, .rw 1 60 false Nat uL H n)], 1⟩, fun (i, H) => i ≤ n ∧ ∀ j, j < i → H j = dg (y / 2 ^ s) j, fun (i, _) => n - i, ⟨(0, fun _ => 0), [], ⟨Nat.zero_le _, fun j hj => absurd hj (Nat.not_lt_zero _)⟩, Ent.g⟩, ?_⟩⟩
  rintro ⟨i, H⟩ ⟨i1, hI⟩
  by_cases hi : i < n
  · have hsb : Nat.beq (s : Int).toNat 32 = false := nbeq_f (by omega)
    have hn2 : ∀ j, j < i + 1 → setZ Nat H i (dg (y / 2 ^ s) i) j = dg (y / 2 ^ s) j := fun j hj => by
      unfold setZ
      by_cases e : j = i
      · rw [if_pos e, e]
      · rw [if_neg e]; exact hI j (by omega)
    have d0 := dg32 y i
    have d1 := dg32 y (i + 1)
    have e := shr_dg (y := y) (i := i) hs
    rw [w32_eq] at e
    have e2 : ((dg y (i + 1) * 4294967296 + dg y i : Nat) : Int) / ((2 ^ s : Nat) : Int) % 4294967296 = ((dg (y / 2 ^ s) i : Nat) : Int) := by
      rw [e, ← Int.natCast_ediv]
      omega
    clear hI
    by_cases hk : i + 1 < n
    · have eb : bitz .u64 .or (dg y i : Int) ((dg y (i + 1) : Int) * 4294967296) = ((dg y (i + 1) * 4294967296 + dg y i : Nat) : Int) := by
        rw [bitz_or_comm, bitz_or (.inr rfl) (A := dg y (i + 1)) (s := 32) (n := dg y i) (by omega) rfl (by omega) (by show _ < 18446744073709551616; omega)]
        omega
      repeat' ((conv => whnf); first | (refine Idx.mk ⟨i, rfl, by omega, ?_⟩) | (refine Idx.mk ⟨i + 1, by omega, by omega, ?_⟩) | (refine Ob.mk ⟨Int.natCast_nonneg s, (by show s ≤ 64; omega)⟩ ?_) | (refine BitOb.mk' _ eb ?_) | refine Ja ?_ | refine Jb ?_ | refine Jc ?_ | refine Je ?_ | (rw [hsb]))
      refine ⟨⟨_, congrArg (fun q => [Leaf.x (.int .u32 q)]) e2, ?_⟩⟩
      repeat' ((conv => whnf); first | refine Jb ?_)
      exact ⟨(i + 1, _), [], ⟨hi, hn2⟩, by show n - (i + 1) < n - i; omega, Ent.g⟩
    · have z : dg y (i + 1) = 0 := dg_out (by omega)
      rw [z, Nat.zero_mul, Nat.zero_add] at e2
      repeat' ((conv => whnf); first | (refine Idx.mk ⟨i, rfl, by omega, ?_⟩) | (refine Ob.mk ⟨Int.natCast_nonneg s, (by show s ≤ 64; omega)⟩ ?_) | refine Ja ?_ | refine Jb ?_ | refine Jc ?_ | refine Je ?_ | refine Jf ?_ | (rw [hsb]))
      refine ⟨⟨_, congrArg (fun q => [Leaf.x (.int .u32 q)]) e2, ?_⟩⟩
      repeat' ((conv => whnf); first | refine Jb ?_)
      exact ⟨(i + 1, _), [], ⟨hi, hn2⟩, by show n - (i + 1) < n - i; omega, Ent.g⟩
  · obtain rfl : i = n := by omega
    clear hy
    repeat' ((conv => whnf); first | refine Jf ?_)
    refine ⟨⟨_, _, rfl, rfl, ?_⟩⟩
    exact .leaf (dsL_le hI)
end Go.Proofs.YtdjfndfkjbjcpaaGreatDoor

/- Bigints in letters: a digit of the quotient, in a part of the caller's row. -/
namespace Go.Proofs.YtdjfndfkjbjcpaaGreatDoor
open Go Go.RowKit Go.VG HP
def digZ (U : Nat → Nat) (l n R : Nat) : Nat → Nat := fun p => if l ≤ p ∧ p < l + (n + 1) then dg R (p - l) else U p
structure DgI (U : Nat → Nat) (V g l i c r : Nat) (H : Nat → Nat) : Prop where
  s : KnS (fun q => H (l + q)) (fun q => U (l + q)) (dg V) g c r i
  c1 : c < 4294967296
  r1 : r ≤ 1
  lt : ∀ q, q < i → H (l + q) < W32
  same : ∀ p, p < l ∨ l + i ≤ p → H p = U p
theorem DgI.start {U : Nat → Nat} {V g l : Nat} : DgI U V g l 0 0 0 U :=
  ⟨by show valF _ 0 + g * valF _ 0 = valF _ 0 + (0 + 0) * W32 ^ 0; simp [valF], by omega, by omega, fun q hq => absurd hq (Nat.not_lt_zero _), fun _ _ => rfl⟩
theorem DgI.step {U : Nat → Nat} {V g l i c r : Nat} {H : Nat → Nat} (h : DgI U V g l i c r H) (hg : g < 4294967296) (hu : U (l + i) < 4294967296) {t : Nat} (ht : t = g * dg V i + c) :
    t < 18446744073709551616 ∧ DgI U V g l (i + 1) (t / 4294967296) (if U (l + i) < t % 4294967296 + r then 1 else 0) (setZ Nat H (l + i) ((U (l + i) + 8589934592 - t % 4294967296 - r) % 4294967296)) := by
  have k := knS_carry (g := g) (x := dg V i) (c := c) (t := t) (by rw [w32_eq]; exact hg) (by rw [w32_eq]; exact dg32 V i) (by rw [w32_eq]; exact h.c1) ht
  have hr := h.r1
  have hs := h.s
  rw [w32_eq] at k
  have hm : t % 4294967296 < 4294967296 := Nat.mod_lt _ (by omega)
  refine ⟨k.1, ?_, k.2.1, by split <;> omega, fun q hq => ?_, fun p hp => ?_⟩
  · have := knS_step (F' := fun q => setZ Nat H (l + i) ((U (l + i) + 8589934592 - t % 4294967296 - r) % 4294967296) (l + q)) (t := t) (d := (U (l + i) + 8589934592 - t % 4294967296 - r) % 4294967296) (r' := if U (l + i) < t % 4294967296 + r then 1 else 0) hs (fun j hj => by
      show setZ Nat H (l + i) _ (l + j) = H (l + j)
      unfold setZ
      rw [if_neg (by omega)]) ht (by
      show U (l + i) + (if U (l + i) < t % 4294967296 + r then 1 else 0) * W32 = (U (l + i) + 8589934592 - t % 4294967296 - r) % 4294967296 + t % W32 + r
      rw [w32_eq]
      split <;> omega) (set_at _ _ _)
    rw [w32_eq] at this
    exact this
  · unfold setZ
    by_cases e : l + q = l + i
    · rw [if_pos e, w32_eq]; omega
    · rw [if_neg e]; exact h.lt q (by omega)
  · unfold setZ
    rw [if_neg (by omega)]
    exact h.same p (by omega)
theorem DgI.top {U : Nat → Nat} {V g l n c r : Nat} {H : Nat → Nat} (h : DgI U V g l n c r H) (hn : n = ln V) (hu : U (l + n) < 4294967296) {r' d : Nat} (hr' : r' = if U (l + n) < c + r then 1 else 0) (hd : d = (U (l + n) + 8589934592 - c - r) % 4294967296) :
    valF (fun q => setZ Nat H (l + n) d (l + q)) (n + 1) + g * V = valF (fun q => U (l + q)) (n + 1) + r' * W32 ^ (n + 1) ∧ (∀ q, q < n + 1 → setZ Nat H (l + n) d (l + q) < W32) ∧ ∀ p, p < l ∨ l + (n + 1) ≤ p → setZ Nat H (l + n) d p = U p := by
  have hr := h.r1
  have hc := h.c1
  refine ⟨?_, fun q hq => ?_, fun p hp => ?_⟩
  · have := knS_top (F' := fun q => setZ Nat H (l + n) d (l + q)) (r' := r') (d := d) h.s (fun j hj => by
      show setZ Nat H (l + n) _ (l + j) = H (l + j)
      unfold setZ
      rw [if_neg (by omega)]) (by
      show U (l + n) + r' * W32 = d + c + r
      rw [hr', hd, w32_eq]
      split <;> omega) (set_at _ _ _)
    rw [show valF (dg V) n = V by rw [hn]; exact val_ln V] at this
    exact this
  · unfold setZ
    by_cases e : l + q = l + n
    · rw [if_pos e, w32_eq]; omega
    · rw [if_neg e]; exact h.lt q (by omega)
  · unfold setZ
    rw [if_neg (by omega)]
    exact h.same p (by omega)
structure DbI (U G : Nat → Nat) (V l n i c : Nat) (H : Nat → Nat) : Prop where
  s : KnB (fun q => H (l + q)) (fun q => G (l + q)) (dg V) c i
  c1 : c ≤ 1
  lt : ∀ q, q < n + 1 → H (l + q) < W32
  same : ∀ p, p < l ∨ l + (n + 1) ≤ p → H p = U p
  rest : ∀ q, i ≤ q → H (l + q) = G (l + q)
theorem DbI.step {U G : Nat → Nat} {V l n i c : Nat} {H : Nat → Nat} (h : DbI U G V l n i c H) (hi : i < n) : H (l + i) < 4294967296 ∧ DbI U G V l n (i + 1) ((H (l + i) + dg V i + c) / 4294967296) (setZ Nat H (l + i) ((H (l + i) + dg V i + c) % 4294967296)) := by
  have hc := h.c1
  have hv := dg32 V i
  have hh := h.lt i (by omega)
  rw [w32_eq] at hh
  refine ⟨hh, ?_, by omega, fun q hq => ?_, fun p hp => ?_, fun q hq => ?_⟩
  · refine knB_step (d := (H (l + i) + dg V i + c) % 4294967296) h.s (fun j hj => ?_) ?_ (set_at _ _ _)
    · show setZ Nat H (l + i) _ (l + j) = H (l + j)
      unfold setZ
      rw [if_neg (by omega)]
    · show G (l + i) + dg V i + c = _
      rw [← h.rest i (Nat.le_refl _), w32_eq]
      omega
  · unfold setZ
    split
    · rw [w32_eq]; omega
    · exact h.lt q hq
  · unfold setZ
    rw [if_neg (by omega)]
    exact h.same p hp
  · unfold setZ
    rw [if_neg (by omega)]
    exact h.rest q (by omega)
theorem DbI.top {U G : Nat → Nat} {V l n c : Nat} {H : Nat → Nat} (h : DbI U G V l n n c H) (hn : n = ln V) {d : Nat} (hd : d = (H (l + n) + c) % 4294967296) :
    (∃ k, valF (fun q => setZ Nat H (l + n) d (l + q)) (n + 1) + k * W32 ^ (n + 1) = valF (fun q => G (l + q)) (n + 1) + V) ∧ (∀ q, q < n + 1 → setZ Nat H (l + n) d (l + q) < W32) ∧ ∀ p, p < l ∨ l + (n + 1) ≤ p → setZ Nat H (l + n) d p = U p := by
  have hc := h.c1
  have hh := h.lt n (by omega)
  rw [w32_eq] at hh
  refine ⟨⟨(H (l + n) + c) / 4294967296, ?_⟩, fun q hq => ?_, fun p hp => ?_⟩
  · have := knB_top (F' := fun q => setZ Nat H (l + n) d (l + q)) (d := d) (k := (H (l + n) + c) / 4294967296) h.s (fun j hj => by
      show setZ Nat H (l + n) _ (l + j) = H (l + j)
      unfold setZ
      rw [if_neg (by omega)]) (by
      show G (l + n) + c = _
      rw [← h.rest n (Nat.le_refl _), w32_eq]
      omega) (set_at _ _ _)
    rw [show valF (dg V) n = V by rw [hn]; exact val_ln V] at this
    exact this
  · unfold setZ
    split
    · rw [w32_eq]; omega
    · exact h.lt q hq
  · unfold setZ
    rw [if_neg (by omega)]
    exact h.same p hp
theorem digZ_of {U H : Nat → Nat} {l n R : Nat} (hv : valF (fun q => H (l + q)) (n + 1) = R) (hl : ∀ q, q < n + 1 → H (l + q) < W32) (hs : ∀ p, p < l ∨ l + (n + 1) ≤ p → H p = U p) : ∀ p, H p = digZ U l n R p := fun p => by
  unfold digZ
  by_cases h : l ≤ p ∧ p < l + (n + 1)
  · rw [if_pos h]
    have := dg_of hv hl (i := p - l) (by omega)
    rw [show l + (p - l) = p by omega] at this
    exact this
  · rw [if_neg h]
    exact hs p (by omega)
theorem u32_pl : ∀ (z : Nat) (j : Nat), PlainL (uL z j) := fun _ _ => PlainL.x _
structure DgC (U : Nat → Nat) (V l : Nat) : Prop where
  n2 : 2 ≤ ln V
  nb : ln V ≤ 1000000
  top : 2147483648 ≤ dg V (ln V - 1)
  u : ∀ i, i < ln V + 1 → U (l + i) < 4294967296
  lt : valF (fun q => U (l + q)) (ln V + 1) < V * W32
def partN (U : Nat → Nat) (V l : Nat) : Nat := valF (fun q => U (l + q)) (ln V + 1)
def topN (U : Nat → Nat) (V l : Nat) : Nat := U (l + ln V) * W32 + U (l + (ln V - 1))
theorem DgC.kn {U : Nat → Nat} {V l : Nat} (h : DgC U V l) : KnD (partN U V l) V (W32 ^ (ln V - 2)) (topN U V l) (U (l + (ln V - 2))) (valF (fun q => U (l + q)) (ln V - 2)) (dg V (ln V - 1)) (dg V (ln V - 2)) (valF (dg V) (ln V - 2)) := by
  have h2 := h.n2
  obtain ⟨N, hN⟩ : ∃ N, ln V = N + 2 := ⟨ln V - 2, by omega⟩
  have hv := val_ln V
  have hu := h.u
  have hlt := h.lt
  have ht := h.top
  unfold partN topN
  rw [hN] at *
  have k := knD_of (u := fun q => U (l + q)) (v := dg V) (n := N) (fun i hi => by rw [w32_eq]; exact hu i hi) (fun i _ => by rw [w32_eq]; exact dg32 V i) ht (by rw [hv]; exact hlt)
  rw [hv] at k
  exact k
end Go.Proofs.YtdjfndfkjbjcpaaGreatDoor

/- Bigints in letters: a digit of the quotient, walked. -/
namespace Go.Proofs.YtdjfndfkjbjcpaaGreatDoor
open Go Go.RowKit Go.VG HP
theorem knG_bd {S V T v1 g r : Nat} (k : KnG S V T v1 g r) (h1 : 2147483648 ≤ v1) (tl : T < v1 * 4294967296 + 4294967296) : g ≤ 4294967298 := by
  apply Nat.le_of_lt_succ
  apply Nat.lt_of_not_le
  intro h
  have h2 : 4294967299 * v1 ≤ g * v1 := Nat.mul_le_mul_right _ h
  have := k.eq
  omega
set_option maxHeartbeats 16000000 in
set_option maxRecDepth 20000 in
theorem digit_sp (U : Nat → Nat) (V l tot : Nat) (h : DgC U V l) (hb : l + (ln V + 1) ≤ tot) : SpW CX 176 1 60 Nat uL U (digZ U l (ln V) (partN U V l % V)) tot l (ln V + 1) [dsA V (ln V)] (int .u32 (partN U V l / V : Nat)) := by
  have k := h.kn
  have hn2 := h.n2
  have hnb := h.nb
  have htop := h.top
  have hu := h.u
  have hV0 := k.v0
  have hVW : V ≤ W32 ^ (ln V + 1) := Nat.le_of_lt (Nat.lt_of_lt_of_le (lt_ln V) (w32_mono (Nat.le_succ _)))
  have hqW := k.q_lt
  obtain ⟨n, hn⟩ : ∃ n, n = ln V := ⟨_, rfl⟩
  obtain ⟨T, hT⟩ : ∃ T, T = topN U V l := ⟨_, rfl⟩
  obtain ⟨S, hS⟩ : ∃ S, S = partN U V l := ⟨_, rfl⟩
  have hS' : S = valF (fun q => U (l + q)) (n + 1) := by rw [hS, hn]; rfl
  have hT' : T = U (l + n) * W32 + U (l + (n - 1)) := by rw [hT, hn]; rfl
  rw [← hS] at k hqW ⊢
  rw [← hT] at k
  rw [← hn] at k hn2 hnb htop hu hVW hb ⊢
  have v1l := k.top2
  have u1 := hu n (by omega)
  have u2 := hu (n - 1) (by omega)
  have u3 := hu (n - 2) (by omega)
  rw [w32_eq] at v1l hT' hqW
  have tl := k.top_le
  rw [w32_eq] at tl
  refine fn_spW (C := CX) (rest := [dsA V n]) [(0, 0)] tysX_ok mixed Tryz.func176 rfl (by kernel_rfl) Tryz.ntmps176 rfl (PlainAv.x _) u32_pl ?_
  intro w g0 V'
  have ebT : bitz .u64 .or ((U (l + n) : Int) * 4294967296) (U (l + (n - 1)) : Int) = (T : Int) := by
    rw [bitz_or (.inr rfl) (A := U (l + n)) (s := 32) (n := U (l + (n - 1))) (by omega) rfl (by omega) (by show _ < 18446744073709551616; omega)]
    omega
  have v10 : 0 < dg V (n - 1) := by omega
  have eq : (T : Int).tdiv (dg V (n - 1)) = ((T / dg V (n - 1) : Nat) : Int) := (Int.ofNat_tdiv T _).symm
  have er : (T : Int).tmod (dg V (n - 1)) = ((T % dg V (n - 1) : Nat) : Int) := (Int.ofNat_tmod T _).symm
  have rl : T % dg V (n - 1) < dg V (n - 1) := Nat.mod_lt _ v10
  have eo : (dg V (n - 1) : Int) ≠ 0 ∧ InK .u64 ((T : Int).tdiv (dg V (n - 1))) := ⟨by omega, by
    rw [eq]
    have : T / dg V (n - 1) ≤ T := Nat.div_le_self _ _
    show (0 : Int) ≤ ((T / dg V (n - 1) : Nat) : Int) ∧ ((T / dg V (n - 1) : Nat) : Int) ≤ 18446744073709551615
    generalize T / dg V (n - 1) = q at *
    omega⟩
  have hN : 1 ≤ n := by omega
  repeat' ((conv => whnf); first | refine Ja ?_)
  refine ⟨⟨Unit, fun _ => ⟨[(0, .v (.c (.rs 0 1 l (n + 1) V'))), (1, dsA V n)], [(0, .rw 1 60 false Nat uL U tot)], 1⟩, fun _ => True, ?_, ?_⟩⟩
  · repeat' ((conv => whnf); first | refine Ja ?_)
    exact ⟨(), [], trivial, Ent.g⟩
  rintro ⟨⟩ -
  repeat' ((conv => whnf); first | (refine Idx.mk ⟨n - 1, by omega, by omega, ?_⟩) | (refine Idx.mk ⟨n, rfl, by omega, ?_⟩) | (refine Ob.mk eo ?_) | (refine BitOb.mk' _ ebT ?_) | refine Ja ?_ | refine Jb ?_ | refine Ji ?_ | refine Jj ?_ | refine Jk rfl ?_)
  refine ⟨⟨Nat, fun g => ⟨[(0, .v (.c (.rs 0 1 l (n + 1) V'))), (1, dsA V n), (5, int .i64 n), (7, int .u64 g)], [(0, .rw 1 60 false Nat uL U tot)], 1⟩, fun g => g < 4294967296 ∧ S / V ≤ g ∧ (g = S / V ∨ g = S / V + 1), ?_, ?_⟩⟩
  · repeat' ((conv => whnf); first | refine Ja ?_)
    refine ⟨⟨Nat × Nat, fun (g, r) => ⟨[(0, .v (.c (.rs 0 1 l (n + 1) V'))), (1, dsA V n), (5, int .i64 n), (7, int .u64 g), (8, int .u64 r)], [(0, .rw 1 60 false Nat uL U tot)], 1⟩, fun (g, r) => KnG S V T (dg V (n - 1)) g r ∧ r < 4294967296, fun (g, _) => g, ⟨(T / dg V (n - 1), T % dg V (n - 1)), [], ⟨KnG.start k, by omega⟩, by
      refine ⟨?_, ?_, rfl⟩
      · refine .cons (.refl _) (.cons (.refl _) (.cons (.refl _) (.cons (.int eq) (.cons (.int er) .nil))))
      · exact .cons rfl (.refl _) .nil⟩, ?_⟩⟩
    rintro ⟨g, r⟩ ⟨kg, hr⟩
    have gb := knG_bd kg htop tl
    have ge := kg.ge
    by_cases cA : 4294967296 ≤ g
    · obtain ⟨g1, kn⟩ := KnG.down k kg (.inl (by rw [w32_eq]; exact cA))
      by_cases cw : 4294967296 ≤ r + dg V (n - 1)
      · obtain ⟨w1, w2⟩ := KnG.wide k kn (by rw [w32_eq]; exact cw)
        have fin := KnG.fin k kn w1 w2
        have ge' := kn.ge
        rw [w32_eq] at w1
        clear k kg kn w2
        repeat' ((conv => whnf); first | (refine Idx.mk ⟨n - 1, by omega, by omega, ?_⟩) | refine Jb ?_ | refine Je ?_ | refine Ji ?_ | refine Jj ?_ | refine Jk rfl ?_)
        exact ⟨g - 1, [], ⟨w1, ge', fin⟩, Ent.g⟩
      · clear k kg
        repeat' ((conv => whnf); first | (refine Idx.mk ⟨n - 1, by omega, by omega, ?_⟩) | refine Jb ?_ | refine Je ?_ | refine Jf ?_ | refine Ji ?_ | refine Jj ?_ | refine Jk rfl ?_)
        exact ⟨(g - 1, r + dg V (n - 1)), [], ⟨kn, by omega⟩, by show g - 1 < g; omega, Ent.g⟩
    · have ebr : bitz .u64 .or ((r : Int) * 4294967296) (U (l + (n - 2)) : Int) = ((r * 4294967296 + U (l + (n - 2)) : Nat) : Int) := by
        rw [bitz_or (.inr rfl) (A := r) (s := 32) (n := U (l + (n - 2))) (by omega) rfl (by omega) (by show _ < 18446744073709551616; omega)]
        omega
      have v2l := dg32 V (n - 2)
      have b0 : (0 : Int) ≤ (g : Int) * dg V (n - 2) := Int.mul_nonneg (by omega) (by omega)
      have b1 := bmul_bd (x := g) (y := dg V (n - 2)) (by omega) v2l
      have b2 : (g : Int) * dg V (n - 2) = ((g * dg V (n - 2) : Nat) : Int) := by push_cast; rfl
      by_cases cB : r * 4294967296 + U (l + (n - 2)) < g * dg V (n - 2)
      · obtain ⟨g1, kn⟩ := KnG.down k kg (.inr (by rw [w32_eq]; exact cB))
        by_cases cw : 4294967296 ≤ r + dg V (n - 1)
        · obtain ⟨w1, w2⟩ := KnG.wide k kn (by rw [w32_eq]; exact cw)
          have fin := KnG.fin k kn w1 w2
          have ge' := kn.ge
          rw [w32_eq] at w1
          clear k kg kn w2
          repeat' ((conv => whnf); first | (refine Idx.mk ⟨n - 2, by omega, by omega, ?_⟩) | (refine Idx.mk ⟨n - 1, by omega, by omega, ?_⟩) | (refine BitOb.mk' _ ebr ?_) | refine Ja ?_ | refine Jb ?_ | refine Je ?_ | refine Jf ?_ | refine Ji ?_ | refine Jj ?_ | refine Jk rfl ?_)
          exact ⟨g - 1, [], ⟨w1, ge', fin⟩, Ent.g⟩
        · clear k kg
          repeat' ((conv => whnf); first | (refine Idx.mk ⟨n - 2, by omega, by omega, ?_⟩) | (refine Idx.mk ⟨n - 1, by omega, by omega, ?_⟩) | (refine BitOb.mk' _ ebr ?_) | refine Ja ?_ | refine Jb ?_ | refine Je ?_ | refine Jf ?_ | refine Ji ?_ | refine Jj ?_ | refine Jk rfl ?_)
          exact ⟨(g - 1, r + dg V (n - 1)), [], ⟨kn, by omega⟩, by show g - 1 < g; omega, Ent.g⟩
      · have fin := KnG.fin k kg (by rw [w32_eq]; omega) (by rw [w32_eq]; omega)
        clear k kg
        repeat' ((conv => whnf); first | (refine Idx.mk ⟨n - 2, by omega, by omega, ?_⟩) | (refine BitOb.mk' _ ebr ?_) | refine Ja ?_ | refine Jb ?_ | refine Jf ?_ | refine Ji ?_ | refine Jj ?_ | refine Jk rfl ?_)
        exact ⟨g, [], ⟨by omega, ge, fin⟩, Ent.g⟩
  · rintro g ⟨gl, ge, gf⟩
    clear k eo eq er rl ebT tl hT' u2 u3
    repeat' ((conv => whnf); first | refine Ja ?_)
    refine ⟨⟨Nat × Nat × Nat × (Nat → Nat), fun (i, c, r, H) => ⟨[(0, .v (.c (.rs 0 1 l (n + 1) V'))), (1, dsA V n), (5, int .i64 n), (7, int .u64 g), (9, int .u64 c), (10, int .u32 r), (82, dsA V n), (83, int .i64 n), (84, int .i64 i)], [(0, .rw 1 60 false Nat uL H tot)], 1⟩, fun (i, c, r, H) => i ≤ n ∧ DgI U V g l i c r H, fun (i, _) => n - i, ⟨(0, 0, 0, U), [], ⟨Nat.zero_le _, DgI.start⟩, Ent.g⟩, ?_⟩⟩
    rintro ⟨i, c, r, H⟩ ⟨i1, hI⟩
    have hc := hI.c1
    have hr := hI.r1
    by_cases hi : i < n
    · obtain ⟨tt, htt⟩ : ∃ tt, tt = g * dg V i + c := ⟨_, rfl⟩
      have hui := hu i (by omega)
      obtain ⟨tb, hn⟩ := hI.step gl hui htt
      have hsame : H (l + i) = U (l + i) := hI.same (l + i) (.inr (Nat.le_refl _))
      rw [← hsame] at hn hui
      have d1 := dg32 V i
      have b0 : (0 : Int) ≤ (g : Int) * dg V i := Int.mul_nonneg (by omega) (by omega)
      have b1 := bmul_bd (x := g) (y := dg V i) gl d1
      have b2 : (g : Int) * dg V i + c = (tt : Int) := by rw [htt]; push_cast; rfl
      have s := (Sub32_sp (H (l + i)) (tt % 4294967296) r hui (Nat.mod_lt _ (by omega)) hr).inW w g0
      clear hI htt gf ge
      generalize (if H (l + i) < tt % 4294967296 + r then 1 else 0 : Nat) = r' at *
      repeat' ((conv => whnf); first | (refine Idx.mk ⟨i, rfl, by omega, ?_⟩) | refine Ja ?_ | refine Jb ?_ | refine Jc ?_ | refine Je ?_ | refine Sp.call (s) (.cons (.refl _) (.cons (.int (by omega)) (.cons (.refl _) .nil))) rfl (AvLe.refl _) ?_)
      refine ⟨⟨_, rfl, ?_⟩⟩
      repeat' ((conv => whnf); first | refine Jb ?_)
      exact ⟨(i + 1, _, _, _), [], ⟨hi, hn⟩, by show n - (i + 1) < n - i; omega, Ent.g⟩
    · obtain rfl : i = n := by omega
      have hui := hu i (by omega)
      have hsame : H (l + i) = U (l + i) := hI.same (l + i) (.inr (Nat.le_refl _))
      obtain ⟨d, hd⟩ : ∃ d, d = (U (l + i) + 8589934592 - c - r) % 4294967296 := ⟨_, rfl⟩
      have s := (Sub32_sp (U (l + i)) c r hui hc hr).inW w g0
      rw [← hd] at s
      have hd' : d < 4294967296 := by rw [hd]; exact Nat.mod_lt _ (by omega)
      by_cases hbr : U (l + i) < c + r
      · obtain ⟨t1, t2, t3⟩ := hI.top hn (r' := 1) hui (by rw [if_pos hbr]) hd
        rw [if_pos hbr, ← hsame] at s
        rw [← hS'] at t1
        have hlt := valF_lt (F := fun q => setZ Nat H (l + i) d (l + q)) (i + 1) t2
        have g1 : 1 ≤ g := by
          rcases Nat.eq_zero_or_pos g with e | e
          · exfalso
            rw [e, Nat.zero_mul, Nat.one_mul] at t1
            omega
          · exact e
        clear hI hd
        repeat' ((conv => whnf); first | (refine Idx.mk ⟨i, rfl, by omega, ?_⟩) | refine Ja ?_ | refine Jb ?_ | refine Jf ?_ | refine Jy s ?_)
        refine ⟨⟨d, rfl, ?_⟩⟩
        repeat' ((conv => whnf); first | refine Jb ?_ | refine Je ?_)
        refine ⟨⟨Nat × Nat × (Nat → Nat), fun (q, b, G) => ⟨[(0, .v (.c (.rs 0 1 l (i + 1) V'))), (1, dsA V i), (5, int .i64 i), (7, int .u64 ((g : Int) - 1)), (14, int .u32 b), (130, dsA V i), (131, int .i64 i), (132, int .i64 q)], [(0, .rw 1 60 false Nat uL G tot)], 1⟩, fun (q, b, G) => q ≤ i ∧ DbI U (setZ Nat H (l + i) d) V l i q b G, fun (q, _) => i - q, ⟨(0, 0, setZ Nat H (l + i) d), [], ⟨Nat.zero_le _, ⟨by show valF _ 0 + 0 * W32 ^ 0 = valF _ 0 + valF _ 0; simp [valF], by omega, t2, t3, fun _ _ => rfl⟩⟩, Ent.g⟩, ?_⟩⟩
        rintro ⟨q, b, G⟩ ⟨q1, hB⟩
        have hb1 := hB.c1
        by_cases hq : q < i
        · obtain ⟨gq, hB2⟩ := hB.step hq
          have d1 := dg32 V q
          have s := (Add32_sp (G (l + q)) (dg V q) b gq d1 hb1).inW w g0
          clear hB t1 t2 t3 hlt gf ge
          repeat' ((conv => whnf); first | (refine Idx.mk ⟨q, rfl, by omega, ?_⟩) | refine Ja ?_ | refine Je ?_ | refine Jy s ?_)
          refine ⟨⟨_, rfl, ?_⟩⟩
          repeat' ((conv => whnf); first | refine Jb ?_)
          exact ⟨(q + 1, _, _), [], ⟨hq, hB2⟩, by show i - (q + 1) < i - q; omega, Ent.g⟩
        · obtain rfl : q = i := by omega
          obtain ⟨e, he⟩ : ∃ e, e = (G (l + q) + b) % 4294967296 := ⟨_, rfl⟩
          have gq := hB.lt q (by omega)
          rw [w32_eq] at gq
          obtain ⟨⟨kk, u1⟩, u2, u3⟩ := hB.top hn he
          have hlt2 := valF_lt (F := fun p => setZ Nat G (l + q) e (l + p)) (q + 1) u2
          obtain ⟨f1, f2⟩ := kn_back hV0 gf hlt hVW (by rw [Nat.one_mul] at t1; exact t1) u1 hlt2
          have fz := digZ_of f2 u2 u3
          clear hB t1 t2 t3 hlt u1 u2 u3 hlt2 f2
          repeat' ((conv => whnf); first | (refine Idx.mk ⟨q, rfl, by omega, ?_⟩) | refine Ja ?_ | refine Jc ?_ | refine Jf ?_)
          refine ⟨⟨e, congrArg (fun z => [Leaf.x (.int .u32 z)]) (by omega), ?_⟩⟩
          repeat' ((conv => whnf); first | refine Jb ?_)
          refine ⟨⟨_, _, rfl, rfl, rfl, ?_, ?_⟩⟩
          · exact .int (by omega)
          · exact .rw (fun p j hp _ => by rw [fz p]; exact .refl _) fun _ _ _ _ => rfl
      · obtain ⟨t1, t2, t3⟩ := hI.top hn (r' := 0) hui (by rw [if_neg hbr]) hd
        rw [if_neg hbr, ← hsame] at s
        rw [← hS', Nat.zero_mul, Nat.add_zero] at t1
        obtain ⟨f1, f2⟩ := kn_right hV0 ge t1
        have fz := digZ_of f2 t2 t3
        clear hI hd t1 t2 t3 f2
        repeat' ((conv => whnf); first | (refine Idx.mk ⟨i, rfl, by omega, ?_⟩) | refine Ja ?_ | refine Jb ?_ | refine Jf ?_ | refine Jy s ?_)
        refine ⟨⟨d, rfl, ?_⟩⟩
        repeat' ((conv => whnf); first | refine Jb ?_ | refine Jf ?_)
        refine ⟨⟨_, _, rfl, rfl, rfl, ?_, ?_⟩⟩
        · exact .int (by omega)
        · exact .rw (fun p j hp _ => by rw [fz p]; exact .refl _) fun _ _ _ _ => rfl
end Go.Proofs.YtdjfndfkjbjcpaaGreatDoor

/- Bigints in letters: a copy of digits. -/
namespace Go.Proofs.YtdjfndfkjbjcpaaGreatDoor
open Go Go.RowKit Go.VG HP
theorem eql_nil (a : Option Addr) (cap : Nat) (w : World) : (binOp .eql 26 (.slice a 0 cap) (.slice none 0 0)).run Tryz.prog w = .ok (.bool a.isNone) w := by
  have heq : (Op.equal 26 (.slice a 0 cap) (.slice none 0 0)).run Tryz.prog w = .ok a.isNone w := by
    unfold Op.equal Op.maxDepth Op.equalIn
    cases a <;> simp [run_underlying Tryz.underlying26]
  simp [binOp, heq]
theorem below_one (w : World) (o : Obj) : Below w.heap.size w (w.alloc o) := ⟨rfl, rfl, rfl, by show w.heap.size ≤ (w.heap.push o).size; simp, fun q hq => by show (w.heap.push o)[q]? = _; rw [Array.getElem?_push_lt hq, Array.getElem?_eq_getElem hq]⟩
set_option maxRecDepth 100000 in
theorem dclone_any (a : Option Addr) (cap : Nat) (w : World) : Calls Tryz.prog 96 #[.slice a 0 cap] w fun e w' => ∃ b c, e = .returned (.slice b 0 c) ∧ (∀ x, b = some x → x.spot = none) ∧ Below w.heap.size w w' := by
  cases a with
  | none =>
    go_enter Tryz.func96, Tryz.ntmps96
    go_wp2_with (rw [eql_nil])
    go_ret
    exact ⟨_, _, rfl, fun x h => (by cases h), Below.refl _ _⟩
  | some a =>
    go_enter Tryz.func96, Tryz.ntmps96
    go_wp2_with (rw [eql_nil])
    go_ret
    exact ⟨_, _, rfl, fun x h => (by cases h; rfl), below_one _ _⟩
theorem dclone0_sp : Sp CX 96 [dsA 0 0] (dsA 0 0) := by
  refine ⟨callOk Tryz.func96 (by kernel_rfl) (by kernel_rfl), rfl, fun O w vs hO hG ha => ?_⟩
  match vs, ha (fun _ => undef) w (Ext.refl _ _) with
  | [_], ⟨⟨_, base, cap, rfl, _, _, _⟩, _⟩ =>
    refine (dclone_any base cap w).mono ?_
    rintro _ w' ⟨b, c, rfl, hs, hbel⟩
    exact ⟨_, rfl, hbel, fun ρ' w'' _ => ⟨by cases b <;> rfl, b, c, rfl, Nat.zero_le _, fun _ => rfl, fun g off sp h => ⟨hs _ h, fun i j hi => absurd hi (Nat.not_lt_zero _)⟩⟩⟩
  | [], h => exact h.elim
  | _ :: _ :: _, ⟨_, h⟩ => exact h.elim
theorem dclone1_sp (x m : Nat) (h1 : 1 ≤ m) (hm : m ≤ 1000000) : SpR CX 96 [dsA x m] 1 60 Nat uL (dg x) m := by
  refine fn_spR (C := CX) [] tysX_ok mixed Tryz.func96 rfl (by kernel_rfl) Tryz.ntmps96 rfl ?_
  repeat' ((conv => whnf); first | refine Ja ?_ | refine Jf ?_)
  refine ⟨⟨Nat, uL, fun _ => 0, 0, rfl, fun i j h => absurd h (Nat.not_lt_zero _), ?_⟩⟩
  repeat' ((conv => whnf); first | refine Ja ?_)
  refine ⟨⟨dg x, fun _ _ _ _ => .refl _, fun _ _ _ _ => rfl, ?_⟩⟩
  repeat' ((conv => whnf); first | refine Ja ?_)
  refine ⟨⟨_, _, _, rfl, rfl, rfl, ?_⟩⟩
  have e : appZ Nat (fun _ => 0) (dg x) 0 = dg x := by funext i; simp [appZ]
  rw [e, Nat.zero_add]
  exact BlkLe.refl _
theorem dclone_sp (x : Nat) (hx : ln x ≤ 400000) : Sp CX 96 [dsA x (ln x)] (dsA x (ln x)) := by
  by_cases h : ln x = 0
  · have := zero_of_ln h
    subst this
    exact dclone0_sp
  · exact spR_fr (dclone1_sp x (ln x) (by omega) (by omega)) rfl
end Go.Proofs.YtdjfndfkjbjcpaaGreatDoor

/- Bigints in letters: long division. -/
namespace Go.Proofs.YtdjfndfkjbjcpaaGreatDoor
open Go Go.RowKit Go.VG HP
theorem fn_spE {C : Ctx} {f : FuncId} {fn : Func} {c : Code} {args : List AV} {r : AV} {nt : Nat} (hints : List (Nat × Nat)) (fz : List Nat) (eff : List FuncId) (hT : TysOk C.P C.tys) (hm : C.P.follows .mixedOrders = true) (hf : C.P.funcs[f]? = some fn) (hb : fn.body = some c) (hnm : (fn.name == "runtime.NumGoroutine") = false)
    (hn : fn.ntmps = nt) (hle : Nat.ble args.length nt = true) (hcl : avB [] r = true)
    (h : vcC C ⟨nt, hints, eff⟩ c ⟨argsTm args 0, [], 0⟩ fun e st' => match e with
      | .ex _ => False
      | _ => RetOb C fn.results.toList fz r st') : Sp C f args r :=
  fn_spec ⟨nt, hints, eff⟩ fz hT hm hf hb hnm hn (nbeq_t (by have := Nat.le_of_ble_eq_true hle; show nt = _; omega)) hcl h
theorem ge_bitLenAux : ∀ (f x : Nat), x < 2 ^ f → x ≠ 0 → 2 ^ Lib.bitLenAux f x ≤ 2 * x
  | 0, x, h, h0 => by rw [Nat.pow_zero] at h; omega
  | f + 1, x, h, h0 => by
    rw [Lib.bitLenAux, if_neg h0, Nat.pow_add, Nat.pow_one]
    by_cases h2 : x / 2 = 0
    · rw [h2, show Lib.bitLenAux f 0 = 0 by cases f <;> simp [Lib.bitLenAux]]
      omega
    · have := ge_bitLenAux f (x / 2) (by rw [Nat.pow_succ] at h; omega) h2
      omega
theorem lead_sp (b : Nat) (hb : b ≠ 0) : ∃ s : Nat, s ≤ 31 ∧ 2147483648 ≤ dg b (ln b - 1) * 2 ^ s ∧ dg b (ln b - 1) * 2 ^ s < W32 ∧ Sp CX 174 [int .u32 (dg b (ln b - 1))] (int .i64 s) := by
  have ht := ln_top hb
  have hd := dg32 b (ln b - 1)
  generalize dg b (ln b - 1) = d at *
  have h1 := Lib.bitLen_le d 32 (by omega) (by omega)
  have b2 := ge_bitLenAux 64 d (by omega) ht
  have b3 := lt_bitLenAux 64 d (by omega)
  have e : Lib.bitLen d = Lib.bitLenAux 64 d := rfl
  have s := lz_sp d hd
  rw [e] at s h1
  generalize Lib.bitLenAux 64 d = L at *
  have b1 : 1 ≤ L := by
    rcases Nat.eq_zero_or_pos L with h | h
    · rw [h, Nat.pow_zero] at b3; omega
    · exact h
  refine ⟨32 - L, by omega, ?_, ?_, ?_⟩
  · have : 2 ^ L * 2 ^ (32 - L) ≤ 2 * d * 2 ^ (32 - L) := Nat.mul_le_mul_right _ b2
    rw [← Nat.pow_add, show L + (32 - L) = 32 by omega, Nat.mul_assoc] at this
    have e : (2 : Nat) ^ 32 = 4294967296 := rfl
    omega
  · have : d * 2 ^ (32 - L) < 2 ^ L * 2 ^ (32 - L) := Nat.mul_lt_mul_of_pos_right b3 (Nat.pow_pos (by omega))
    rw [← Nat.pow_add, show L + (32 - L) = 32 by omega] at this
    exact this
  · rw [show ((32 - L : Nat) : Int) = 32 - (L : Int) by omega]
    exact s
theorem tdivN {x y : Nat} (hy : 0 < y) (hx : x < 18446744073709551616) : (y : Int) ≠ 0 ∧ InK .u64 ((x : Int).tdiv y) := by
  refine ⟨by omega, ?_⟩
  have e : (x : Int).tdiv y = ((x / y : Nat) : Int) := (Int.ofNat_tdiv x y).symm
  rw [e]
  have : x / y ≤ x := Nat.div_le_self _ _
  show (0 : Int) ≤ ((x / y : Nat) : Int) ∧ ((x / y : Nat) : Int) ≤ 18446744073709551615
  generalize x / y = q at *
  omega
theorem lt_two {x : Nat} (h : ln x ≤ 2) : x < 18446744073709551616 := by
  have := Nat.lt_of_lt_of_le (lt_ln x) (w32_mono h)
  rw [show W32 ^ 2 = 18446744073709551616 by decide] at this
  exact this
set_option maxHeartbeats 8000000 in
set_option maxRecDepth 20000 in
theorem divide_lo (a b : Nat) (hb : 0 < b) (ha : ln a ≤ 200000) (hb2 : ln b ≤ 200000) (h : a < b ∨ ln a ≤ 2 ∨ ln b = 1) : Sp CX 164 [dsA a (ln a), dsA b (ln b)] (.tup [.c (dsL (a / b) (ln (a / b))), .c (dsL (a % b) (ln (a % b)))]) := by
  have c := compare_sp a b (by omega) (by omega)
  by_cases h1 : a < b
  · have e1 : a / b = 0 := Nat.div_eq_of_lt h1
    have e2 : a % b = a := Nat.mod_eq_of_lt h1
    have ec : cmpZ a b = -1 := by unfold cmpZ; rw [if_pos h1]
    rw [e1, e2]
    rw [ec] at c
    have k := dclone_sp a (by omega)
    refine fn_sp (C := CX) [] [] tysX_ok mixed Tryz.func164 rfl (by kernel_rfl) Tryz.ntmps164 rfl rfl ?_
    repeat' ((conv => whnf); first | refine Je ?_ | refine Jy c ?_ | refine Jy k ?_)
    refine ⟨⟨_, _, rfl, rfl, ?_⟩⟩
    exact .tup (.cons (.leaf .nil) (.cons (.refl _) .nil))
  · have ec : 0 ≤ cmpZ a b := by unfold cmpZ; rw [if_neg h1]; split <;> omega
    generalize cmpZ a b = z at *
    by_cases h2 : ln a ≤ 2
    · have lb : ln b ≤ 2 := Nat.le_trans (ln_mono (Nat.le_of_not_lt h1)) h2
      have w1 := word_sp a h2
      have w2 := word_sp b lb
      have a64 := lt_two h2
      have eo := tdivN hb a64
      have eq : (a : Int).tdiv b = ((a / b : Nat) : Int) := (Int.ofNat_tdiv a b).symm
      have er : (a : Int).tmod b = ((a % b : Nat) : Int) := (Int.ofNat_tmod a b).symm
      have k1 := wide_sp (a / b) (Nat.lt_of_le_of_lt (Nat.div_le_self _ _) a64)
      have k2 := wide_sp (a % b) (Nat.lt_of_le_of_lt (Nat.mod_le _ _) a64)
      refine fn_sp (C := CX) [] [] tysX_ok mixed Tryz.func164 rfl (by kernel_rfl) Tryz.ntmps164 rfl rfl ?_
      repeat' ((conv => whnf); first | (refine Ob.mk eo ?_) | refine Ja ?_ | refine Je ?_ | refine Jf ?_ | refine Ji ?_ | refine Jj ?_ | refine Jk rfl ?_ | refine Jy c ?_ | refine Jy w1 ?_ | refine Jy w2 ?_ | refine Sp.call (k1) (.cons (.int eq) .nil) rfl (AvLe.refl _) ?_ | refine Sp.call (k2) (.cons (.int er) .nil) rfl (AvLe.refl _) ?_)
      refine ⟨⟨_, _, rfl, rfl, ?_⟩⟩
      exact AvLe.refl _
    · have h3 : ln b = 1 := by omega
      obtain ⟨o1, o2⟩ := one_dg h3
      have s := short_sp a b hb o2 (by omega)
      have t := trimmed_sp (a / b) (ln a) (ln_mono (Nat.div_le_self _ _)) (by omega)
      have k := wide_sp (a % b) (by have := Nat.mod_lt a hb; omega)
      have m32 : a % b < 4294967296 := by have := Nat.mod_lt a hb; omega
      refine fn_sp (C := CX) [] [] tysX_ok mixed Tryz.func164 rfl (by kernel_rfl) Tryz.ntmps164 rfl rfl ?_
      repeat' ((conv => whnf); first | (refine Idx.mk ⟨0, rfl, by omega, ?_⟩) | refine Jb ?_ | refine Je ?_ | refine Jf ?_ | refine Jy c ?_ | refine Sp.call (s) (.cons (.refl _) (.cons (.int (by rw [o1])) .nil)) rfl (AvLe.refl _) ?_ | refine Jy t ?_ | refine Jy k ?_)
      refine ⟨⟨_, _, rfl, rfl, ?_⟩⟩
      exact AvLe.refl _
end Go.Proofs.YtdjfndfkjbjcpaaGreatDoor

/- Bigints in letters: long division of longer numbers. -/
namespace Go.Proofs.YtdjfndfkjbjcpaaGreatDoor
open Go Go.RowKit Go.VG HP
structure LdI (A V : Nat) (n m j : Nat) (u q : Nat → Nat) : Prop where
  k : KnL A V u q n m j
  u : ∀ i, i < n + m → u i < W32
  q : ∀ i, q i < W32
theorem LdI.dgc {A V n m j : Nat} {u q : Nat → Nat} (h : LdI A V n m (j + 1) u q) (hn : n = ln V) (hj : j < m) (n2 : 2 ≤ n) (nb : n ≤ 1000000) (top : 2147483648 ≤ dg V (n - 1)) : DgC u V j := by
  subst hn
  refine ⟨n2, nb, top, fun i hi => ?_, h.k.sec⟩
  have := h.u (j + i) (by omega)
  rw [w32_eq] at this
  exact this
theorem LdI.step {A V n m j : Nat} {u q : Nat → Nat} (h : LdI A V n m (j + 1) u q) (hn : n = ln V) (hj : j < m) (hV : 0 < V) : LdI A V n m j (digZ u j (ln V) (partN u V j % V)) (setZ Nat q j (partN u V j / V)) := by
  subst hn
  have hq : partN u V j / V < W32 := Nat.div_lt_of_lt_mul h.k.sec
  refine ⟨KnL.step h.k hV (Nat.le_of_lt (lt_ln V)) hj (fun i hi => h.u i (by omega)) (fun i hi => ?_) (fun i hi => ?_) (fun i hi => ?_) ?_, fun i hi => ?_, fun i => ?_⟩
  · unfold digZ; rw [if_neg (by omega)]
  · unfold digZ; rw [if_pos (by omega), Nat.add_sub_cancel_left]; rfl
  · unfold setZ; rw [if_neg hi]
  · unfold setZ; rw [if_pos rfl]; rfl
  · unfold digZ
    split
    · exact dg_lt _ _
    · exact h.u i hi
  · unfold setZ
    split
    · exact hq
    · exact h.q i
set_option maxHeartbeats 16000000 in
set_option maxRecDepth 20000 in
theorem divide_hi (a b : Nat) (hb : 0 < b) (ha : ln a ≤ 200000) (hb2 : ln b ≤ 200000) (h1 : ¬ a < b) (h2 : 3 ≤ ln a) (h3 : ln b ≠ 1) : Sp CX 164 [dsA a (ln a), dsA b (ln b)] (.tup [.c (dsL (a / b) (ln (a / b))), .c (dsL (a % b) (ln (a % b)))]) := by
  have c := compare_sp a b (by omega) (by omega)
  have ec : 0 ≤ cmpZ a b := by unfold cmpZ; rw [if_neg h1]; split <;> omega
  generalize cmpZ a b = z at *
  have lb := ln_pos (show b ≠ 0 by omega)
  have lab : ln b ≤ ln a := ln_mono (Nat.le_of_not_lt h1)
  obtain ⟨s, hs, s1, s2, lz⟩ := lead_sp b (by omega)
  obtain ⟨n1, n2, n3⟩ := norm_top hs (by omega) s1 s2
  have r1 := shifted_sp a s hs (by omega)
  have r2 := spR_fr (shifted_sp b s hs (by omega)) rfl
  have t2 := trimmed_sp (b * 2 ^ s) (ln b + 1) (by omega) (by omega)
  obtain ⟨V, hV⟩ : ∃ V, V = b * 2 ^ s := ⟨_, rfl⟩
  obtain ⟨A, hA⟩ : ∃ A, A = a * 2 ^ s := ⟨_, rfl⟩
  obtain ⟨f1, f2⟩ := kn_fin (a := a) (b := b) (s := s)
  have hV0 : 0 < V := by rw [hV]; exact Nat.mul_pos hb (Nat.pow_pos (by omega))
  rw [← hV] at n1 n2 n3 t2 f1 f2
  rw [← hV] at r2
  rw [← hA] at r1 f1 f2
  obtain ⟨n, hn⟩ : ∃ n, n = ln V := ⟨_, rfl⟩
  obtain ⟨m, hm⟩ : ∃ m, n + m = ln a + 1 := ⟨ln a + 1 - n, by omega⟩
  have hnb : n = ln b := by omega
  have start : LdI A V n m m (dg A) (fun _ => 0) := by
    refine ⟨KnL.start ?_ ?_, fun i _ => dg_lt _ _, fun _ => by rw [w32_eq]; omega⟩
    · have : A < W32 ^ (n + m) := by
        rw [hA, hm, Nat.pow_succ]
        exact Nat.mul_lt_mul'' (lt_ln a) (by have := pow31 hs; rw [w32_eq]; omega)
      exact valF_dg' this
    · rw [hA, hV]
      exact kn_start (n := n) hs (lt_ln a) (by rw [hnb, ← hV]; exact n1) (by omega) hm
  have top : 2147483648 ≤ dg V (n - 1) := by
    have e : dg V (n - 1) = V / W32 ^ (n - 1) := Nat.mod_eq_of_lt (Nat.div_lt_of_lt_mul (by rw [← Nat.pow_succ, show (n - 1).succ = n by omega, hnb]; exact n2))
    rw [e]
    exact (Nat.le_div_iff_mul_le (Nat.pow_pos (by rw [w32_eq]; omega))).2 (by rw [hnb]; exact n1)
  have q1 := trimmed_sp (a / b) m (by
    have e : A / V < W32 ^ m := Nat.div_lt_of_lt_mul (by rw [hA, hV]; exact kn_start (n := n) hs (lt_ln a) (by rw [hnb, ← hV]; exact n1) (by omega) hm)
    rw [f1] at e
    exact ln_le e) (by omega)
  have hAV : A % V < V := Nat.mod_lt _ hV0
  have u1 := unshifted_sp (A % V) n s hs (by rw [hn]; exact ln_mono (Nat.le_of_lt hAV)) (by omega)
  have e2 : A % V / 2 ^ s = a % b := by rw [f2]; exact Nat.mul_div_cancel _ (Nat.pow_pos (by omega))
  rw [e2] at u1
  have q2 := trimmed_sp (a % b) n (by rw [hnb]; exact ln_mono (Nat.le_of_lt (Nat.mod_lt _ hb))) (by omega)
  rw [← hn] at t2
  clear s1 s2 n1 n2 hA hV e2 f2
  refine fn_spE (C := CX) [(1000017, 0), (1000017, 1)] [] [176] tysX_ok mixed Tryz.func164 rfl (by kernel_rfl) Tryz.ntmps164 rfl rfl ?_
  repeat' ((conv => whnf); first | (refine Idx.mk ⟨ln b - 1, by omega, by omega, ?_⟩) | refine Ja ?_ | refine Jb ?_ | refine Jf ?_ | refine Jy c ?_ | refine Jy lz ?_ | refine Jy r2 ?_ | refine Jy t2 ?_ | refine SpR.call (r1) (ArgsLe.refl _) rfl rfl ?_)
  refine ⟨⟨Nat, uL, fun _ => 0, m, by omega, mk_u32 _, ?_⟩⟩
  repeat' ((conv => whnf); first | refine Jb ?_)
  refine ⟨⟨Nat × (Nat → Nat) × (Nat → Nat), fun (j, u, q) => ⟨[(4, .v (.c (.row 1))), (10, int .u64 s), (11, .v (.c (.row 0))), (12, dsA V n), (13, int .i64 n), (14, int .i64 ((j : Int) - 1))], [(0, .rw 1 60 false Nat uL u (ln a + 1)), (1, .rw 1 60 false Nat uL q m)], 2⟩, fun (j, u, q) => j ≤ m ∧ LdI A V n m j u q, fun (j, _) => j, ⟨(m, dg A, fun _ => 0), [], ⟨Nat.le_refl _, start⟩, Ent.g⟩, ?_⟩⟩
  rintro ⟨j, u, q⟩ ⟨j1, hI⟩
  clear start c lz r1 r2 t2
  by_cases h0 : j = 0
  · subst h0
    obtain ⟨g1, g2⟩ := hI.k.fin
    have gq : ∀ i, i < m → q i = dg (a / b) i := fun i hi => dg_of (by rw [g1, f1]) (fun i _ => hI.q i) hi
    have gu : ∀ i, i < n → u i = dg (A % V) i := fun i hi => dg_of g2 (fun i hi => hI.u i (by omega)) hi
    clear hI g1 g2 f1
    repeat' ((conv => whnf); first | refine Jf ?_ | refine Ji ?_ | refine Jj ?_ | refine Jk rfl ?_ | refine Sp.call (q1) (.cons (.leaf (dsL_le gq)) .nil) rfl (AvLe.refl _) ?_ | refine Jy q2 ?_ | refine Sp.call (u1) (.cons (.leaf (.sl fun i j hi _ => .int (by show ((shiftZ Nat u 0 i : Nat) : Int) = _; unfold shiftZ; rw [Nat.zero_add, gu i hi]))) (.cons (.refl _) .nil)) rfl (AvLe.refl _) ?_ | (refine SlOb.mk ⟨0, n, .inl ⟨rfl, rfl⟩, .inr ⟨.i64, rfl⟩, by omega, by omega, ?_⟩))
    refine ⟨⟨_, _, rfl, rfl, ?_⟩⟩
    exact AvLe.refl _
  · obtain ⟨k, rfl⟩ : ∃ k, j = k + 1 := ⟨j - 1, by omega⟩
    have dc := hI.dgc hn (by omega) (by omega) (by omega) top
    have hn2 := hI.step hn (by omega) hV0
    have ds := digit_sp u V k (ln a + 1) dc (by omega)
    have ds2 : SpW CX 176 1 60 Nat uL u (digZ u k (ln V) (partN u V k % V)) (ln a + 1) k (k + n + 1 - k) [dsA V n] (int .u32 (partN u V k / V : Nat)) := by
      rw [show k + n + 1 - k = ln V + 1 by omega, hn]
      exact ds
    clear hI dc ds f1
    repeat' ((conv => whnf); first | (refine Idx.mk ⟨k, by omega, by omega, ?_⟩) | refine Ja ?_ | refine Jb ?_ | refine Je ?_ | (refine SlOb.mk ⟨k, k + n + 1, .inr ⟨.i64, congrArg (fun z => some (int .i64 z)) (by omega)⟩, .inr ⟨.i64, congrArg (fun z => some (int .i64 z)) (by omega)⟩, by omega, by omega, ?_⟩) | (refine SpW.callT ds2 rfl rfl (ArgsLe.refl _) rfl ?_))
    refine ⟨⟨_, rfl, ?_⟩⟩
    repeat' ((conv => whnf); first | refine Jb ?_)
    exact ⟨(k, _, _), [], ⟨by omega, hn2⟩, by show k < k + 1; omega, Ent.g⟩
theorem divide_sp (a b : Nat) (hb : 0 < b) (ha : ln a ≤ 200000) (hb2 : ln b ≤ 200000) : Sp CX 164 [dsA a (ln a), dsA b (ln b)] (.tup [.c (dsL (a / b) (ln (a / b))), .c (dsL (a % b) (ln (a % b)))]) := by
  by_cases h : a < b ∨ ln a ≤ 2 ∨ ln b = 1
  · exact divide_lo a b hb ha hb2 h
  · exact divide_hi a b hb ha hb2 (by omega) (by omega) (by omega)
end Go.Proofs.YtdjfndfkjbjcpaaGreatDoor

/- Bigints in letters: DivMod, Exact, Normal, Neg, Sub. -/
namespace Go.Proofs.YtdjfndfkjbjcpaaGreatDoor
open Go Go.RowKit Go.VG HP
theorem ln_one : ln 1 = 1 := by decide
set_option maxHeartbeats 8000000 in
theorem DivMod_sp (a b : Int) (hb : b ≠ 0) (h1 : ln a.natAbs ≤ 200000) (h2 : ln b.natAbs ≤ 200000) : Sp CX 145 [zA a, zA b] (.tup [zV (a / b), zV (a % b), .c (ix 0)]) := by
  have t1 := trimmed_sp a.natAbs (ln a.natAbs) (Nat.le_refl _) (by omega)
  have t2 := trimmed_sp b.natAbs (ln b.natAbs) (Nat.le_refl _) (by omega)
  have hy : 0 < b.natAbs := by omega
  have ly : 1 ≤ ln b.natAbs := ln_pos (by omega)
  have d := divide_sp a.natAbs b.natAbs hy h1 h2
  have lq : ln (a.natAbs / b.natAbs) ≤ ln a.natAbs := ln_mono (Nat.div_le_self _ _)
  have hm := Nat.mod_lt a.natAbs hy
  have lm : ln (a.natAbs % b.natAbs) ≤ ln b.natAbs := ln_mono (Nat.le_of_lt hm)
  have zm := (len_ln (a.natAbs % b.natAbs)).zero_iff
  by_cases hc : a < 0 ∧ a.natAbs % b.natAbs ≠ 0
  · obtain ⟨e1, e2⟩ := dm_all hb (a.natAbs / b.natAbs + 1) (b.natAbs - a.natAbs % b.natAbs) (.inl ⟨hc.1, hc.2, rfl, rfl⟩)
    obtain ⟨ha, hr⟩ := hc
    have p := plus_sp (a.natAbs / b.natAbs) 1 (by omega) (by rw [ln_one]; omega)
    have l := less_sp b.natAbs (a.natAbs % b.natAbs) (Nat.le_of_lt hm) (by omega)
    have g1 := signed_sp (!(decide (a < 0) == decide (b < 0))) (a.natAbs / b.natAbs + 1) (max (ln (a.natAbs / b.natAbs)) (ln 1) + 1) (ln_add _ _) (by rw [ln_one]; omega)
    have g2 := signed_sp false (b.natAbs - a.natAbs % b.natAbs) (ln b.natAbs) (ln_mono (Nat.sub_le _ _)) (by omega)
    rw [zS_eq] at g1 g2
    have e1' : (if (!(decide (a < 0) == decide (b < 0))) = true then -((a.natAbs / b.natAbs + 1 : Nat) : Int) else ((a.natAbs / b.natAbs + 1 : Nat) : Int)) = a / b := e1.symm
    rw [e1'] at g1
    rw [if_neg Bool.false_ne_true, ← e2] at g2
    clear e1 e2 e1'
    refine fn_sp (C := CX) [] [] tysX_ok mixed Tryz.func145 rfl (by kernel_rfl) Tryz.ntmps145 rfl rfl ?_
    repeat' ((conv => whnf); first | refine Je ?_ | refine Jf ?_ | refine Jy t1 ?_ | refine Jy t2 ?_ | refine Jy d ?_ | refine Sp.call (p) (.cons (.refl _) (.cons (.leaf (build1 rfl)) .nil)) rfl (AvLe.refl _) ?_ | refine Jy l ?_ | refine Jy g1 ?_ | refine Jy g2 ?_)
    refine ⟨⟨_, _, rfl, rfl, ?_⟩⟩
    exact AvLe.refl _
  · obtain ⟨e1, e2⟩ := dm_all hb (a.natAbs / b.natAbs) (a.natAbs % b.natAbs) (.inr ⟨hc, rfl, rfl⟩)
    have g1 := signed_sp (!(decide (a < 0) == decide (b < 0))) (a.natAbs / b.natAbs) (ln (a.natAbs / b.natAbs)) (Nat.le_refl _) (by omega)
    have g2 := signed_sp false (a.natAbs % b.natAbs) (ln (a.natAbs % b.natAbs)) (Nat.le_refl _) (by omega)
    rw [zS_eq] at g1 g2
    have e1' : (if (!(decide (a < 0) == decide (b < 0))) = true then -((a.natAbs / b.natAbs : Nat) : Int) else ((a.natAbs / b.natAbs : Nat) : Int)) = a / b := e1.symm
    rw [e1'] at g1
    rw [if_neg Bool.false_ne_true, ← e2] at g2
    clear e1 e2 e1'
    by_cases ha : a < 0
    · have hr : a.natAbs % b.natAbs = 0 := Classical.byContradiction fun h => hc ⟨ha, h⟩
      clear hc
      refine fn_sp (C := CX) [] [] tysX_ok mixed Tryz.func145 rfl (by kernel_rfl) Tryz.ntmps145 rfl rfl ?_
      repeat' ((conv => whnf); first | refine Je ?_ | refine Jf ?_ | refine Jy t1 ?_ | refine Jy t2 ?_ | refine Jy d ?_ | refine Jy g1 ?_ | refine Jy g2 ?_)
      refine ⟨⟨_, _, rfl, rfl, ?_⟩⟩
      exact AvLe.refl _
    · clear hc
      refine fn_sp (C := CX) [] [] tysX_ok mixed Tryz.func145 rfl (by kernel_rfl) Tryz.ntmps145 rfl rfl ?_
      repeat' ((conv => whnf); first | refine Jf ?_ | refine Jy t1 ?_ | refine Jy t2 ?_ | refine Jy d ?_ | refine Jy g1 ?_ | refine Jy g2 ?_)
      refine ⟨⟨_, _, rfl, rfl, ?_⟩⟩
      exact AvLe.refl _
theorem Exact_sp (a b : Int) (hb : b ≠ 0) (hd : b ∣ a) (h1 : ln a.natAbs ≤ 200000) (h2 : ln b.natAbs ≤ 200000) : Sp CX 119 [zA a, zA b] (.tup [zV (a / b), .c (ix 0)]) := by
  have s := DivMod_sp a b hb h1 h2
  rw [Int.emod_eq_zero_of_dvd hd] at s
  have l0 : ln ((0 : Int).natAbs) = 0 := rfl
  refine fn_sp (C := CX) [] [] tysX_ok mixed Tryz.func119 rfl (by kernel_rfl) Tryz.ntmps119 rfl rfl ?_
  repeat' ((conv => whnf); first | refine Jf ?_ | refine Jy s ?_)
  refine ⟨⟨_, _, rfl, rfl, ?_⟩⟩
  exact AvLe.refl _
theorem BNormal_sp (a : Int) (h : ln a.natAbs ≤ 400000) : Sp CX 50 [zA a] (zA a) := by
  have t := trimmed_sp a.natAbs (ln a.natAbs) (Nat.le_refl _) (by omega)
  have c := dclone_sp a.natAbs h
  have g := signed_sp (decide (a < 0)) a.natAbs (ln a.natAbs) (Nat.le_refl _) (by omega)
  have e := sgZ_int a
  unfold sgZ at e
  rw [zS_eq, e] at g
  refine fn_sp (C := CX) [] [] tysX_ok mixed Tryz.func50 rfl (by kernel_rfl) Tryz.ntmps50 rfl rfl ?_
  repeat' ((conv => whnf); first | refine Ji ?_ | refine Jj ?_ | refine Jk rfl ?_ | refine Jy t ?_ | refine Jy c ?_ | refine Jy g ?_)
  refine ⟨⟨_, _, rfl, rfl, ?_⟩⟩
  exact AvLe.refl _
theorem BNeg_sp (a : Int) (h : ln a.natAbs ≤ 400000) : Sp CX 117 [zA a] (zA (-a)) := by
  have t := trimmed_sp a.natAbs (ln a.natAbs) (Nat.le_refl _) (by omega)
  have c := dclone_sp a.natAbs h
  have g := signed_sp (!decide (a < 0)) a.natAbs (ln a.natAbs) (Nat.le_refl _) (by omega)
  have e : (if (!decide (a < 0)) = true then -(a.natAbs : Int) else (a.natAbs : Int)) = -a := by
    by_cases ha : a < 0
    · rw [decide_eq_true ha, if_neg (by decide)]; omega
    · rw [decide_eq_false ha, if_pos (by decide)]; omega
  rw [zS_eq, e] at g
  refine fn_sp (C := CX) [] [] tysX_ok mixed Tryz.func117 rfl (by kernel_rfl) Tryz.ntmps117 rfl rfl ?_
  repeat' ((conv => whnf); first | refine Ji ?_ | refine Jj ?_ | refine Jk rfl ?_ | refine Jy t ?_ | refine Jy c ?_ | refine Jy g ?_)
  refine ⟨⟨_, _, rfl, rfl, ?_⟩⟩
  exact AvLe.refl _
theorem Sub_sp (a b : Int) (hx : ln a.natAbs ≤ 900000) (hy : ln b.natAbs ≤ 900000) : Sp CX 86 [zA a, zA b] (zA (a - b)) := by
  have s1 := trimmed_sp b.natAbs (ln b.natAbs) (Nat.le_refl _) (by omega)
  have s2 := add_core (decide (a < 0)) (!decide (b < 0)) a.natAbs b.natAbs hx hy
  have e : sgZ (!decide (b < 0)) b.natAbs = -b := by
    unfold sgZ
    by_cases hb : b < 0
    · rw [decide_eq_true hb, if_neg (by decide)]; omega
    · rw [decide_eq_false hb, if_pos (by decide)]; omega
  rw [sgZ_int, e, show a + -b = a - b by omega] at s2
  refine fn_sp (C := CX) [] [] tysX_ok mixed Tryz.func86 rfl (by kernel_rfl) Tryz.ntmps86 rfl rfl ?_
  repeat' ((conv => whnf); first | refine Ji ?_ | refine Jj ?_ | refine Jk rfl ?_ | refine Jy s1 ?_ | refine Jy s2 ?_)
  refine ⟨⟨_, _, rfl, rfl, ?_⟩⟩
  exact AvLe.refl _
end Go.Proofs.YtdjfndfkjbjcpaaGreatDoor

/- Bigints in letters: the greatest common divisor. -/
namespace Go.Proofs.YtdjfndfkjbjcpaaGreatDoor
open Go Go.RowKit Go.VG HP
set_option maxHeartbeats 8000000 in
theorem common_sp (a b : Nat) (ha : ln a ≤ 190000) (hb : ln b ≤ 190000) : Sp CX 144 [dsA a (ln a), dsA b (ln b)] (dsA (Nat.gcd a b) (ln (Nat.gcd a b))) := by
  obtain ⟨g, hg⟩ : ∃ g, g = Nat.gcd a b := ⟨_, rfl⟩
  rw [← hg]
  refine fn_sp (C := CX) [] [] tysX_ok mixed Tryz.func144 rfl (by kernel_rfl) Tryz.ntmps144 rfl rfl ?_
  repeat' ((conv => whnf); first | refine Ja ?_)
  refine ⟨⟨Nat × Nat, fun (x, y) => ⟨[(0, dsA x (ln x)), (1, dsA y (ln y))], [], 0⟩, fun (x, y) => ln x ≤ 190000 ∧ ln y ≤ 190000 ∧ g = Nat.gcd x y, fun (_, y) => y, ⟨(a, b), [], ⟨ha, hb, hg⟩, Ent.g⟩, ?_⟩⟩
  rintro ⟨x, y⟩ ⟨x1, y1, e⟩
  have zy := (len_ln y).zero_iff
  by_cases hy : y = 0
  · subst hy
    rw [Nat.gcd_zero_right] at e
    subst e
    have k := dclone_sp g (by omega)
    have l0 : ln 0 = 0 := rfl
    repeat' ((conv => whnf); first | refine Jf ?_ | refine Jy k ?_)
    refine ⟨⟨_, _, rfl, rfl, ?_⟩⟩
    exact AvLe.refl _
  · have ly : 1 ≤ ln y := ln_pos hy
    by_cases hs : ln x ≤ 2 ∧ ln y ≤ 2
    · obtain ⟨s1, s2⟩ := hs
      have w1 := word_sp x s1
      have w2 := word_sp y s2
      have x64 := lt_two s1
      have y64 := lt_two s2
      repeat' ((conv => whnf); first | refine Je ?_ | refine Jy w1 ?_ | refine Jy w2 ?_)
      refine ⟨⟨Nat × Nat, fun (p, q) => ⟨[(5, int .u64 p), (6, int .u64 q)], [], 0⟩, fun (p, q) => p < 18446744073709551616 ∧ q < 18446744073709551616 ∧ g = Nat.gcd p q, fun (_, q) => q, ⟨(x, y), [], ⟨x64, y64, e⟩, Ent.g⟩, ?_⟩⟩
      rintro ⟨p, q⟩ ⟨p1, q1, e2⟩
      clear w1 w2
      by_cases hq : q = 0
      · subst hq
        rw [Nat.gcd_zero_right] at e2
        subst e2
        have k := wide_sp g p1
        repeat' ((conv => whnf); first | refine Jf ?_ | refine Jy k ?_)
        refine ⟨⟨_, _, rfl, rfl, ?_⟩⟩
        exact AvLe.refl _
      · have er : (p : Int).tmod q = ((p % q : Nat) : Int) := (Int.ofNat_tmod p q).symm
        have ml : p % q < q := Nat.mod_lt _ (by omega)
        have eg : g = Nat.gcd q (p % q) := by rw [e2, Nat.gcd_comm p q, Nat.gcd_rec q p, Nat.gcd_comm]
        repeat' ((conv => whnf); first | refine Ja ?_ | refine Je ?_ | refine Ji ?_ | refine Jk rfl ?_ | refine Jl ?_ | refine Jo ?_ | refine Jp ?_ | refine Jq rfl ?_)
        exact ⟨(q, p % q), [], ⟨q1, by omega, eg⟩, ml, by
          refine ⟨?_, .nil, rfl⟩
          exact .cons (.refl _) (.cons (.int er) .nil)⟩
    · have d := divide_sp x y (by omega) (by omega) (by omega)
      have ml : x % y < y := Nat.mod_lt _ (by omega)
      have eg : g = Nat.gcd y (x % y) := by rw [e, Nat.gcd_comm x y, Nat.gcd_rec y x, Nat.gcd_comm]
      have l2 := ln_mono (Nat.le_of_lt ml)
      by_cases hx : ln x ≤ 2
      · have hy2 : ¬ ln y ≤ 2 := fun h => hs ⟨hx, h⟩
        clear hs
        repeat' ((conv => whnf); first | refine Je ?_ | refine Jf ?_ | refine Jy d ?_)
        exact ⟨(y, x % y), [], ⟨y1, by omega, eg⟩, ml, Ent.g⟩
      · clear hs
        repeat' ((conv => whnf); first | refine Je ?_ | refine Jf ?_ | refine Jy d ?_)
        exact ⟨(y, x % y), [], ⟨y1, by omega, eg⟩, ml, Ent.g⟩
theorem Gcd_sp (a b : Int) (ha : ln a.natAbs ≤ 190000) (hb : ln b.natAbs ≤ 190000) : Sp CX 118 [zA a, zA b] (zA ((Int.gcd a b : Nat) : Int)) := by
  have t1 := trimmed_sp a.natAbs (ln a.natAbs) (Nat.le_refl _) (by omega)
  have t2 := trimmed_sp b.natAbs (ln b.natAbs) (Nat.le_refl _) (by omega)
  have c := common_sp a.natAbs b.natAbs ha hb
  have lg : ln (Nat.gcd a.natAbs b.natAbs) ≤ 190000 := by
    by_cases h : a.natAbs = 0
    · rw [h, Nat.gcd_zero_left]; exact hb
    · exact Nat.le_trans (ln_mono (Nat.gcd_le_left _ (by omega))) ha
  have g := signed_sp false (Nat.gcd a.natAbs b.natAbs) (ln (Nat.gcd a.natAbs b.natAbs)) (Nat.le_refl _) (by omega)
  rw [zS_eq, if_neg Bool.false_ne_true] at g
  refine fn_sp (C := CX) [] [] tysX_ok mixed Tryz.func118 rfl (by kernel_rfl) Tryz.ntmps118 rfl rfl ?_
  repeat' ((conv => whnf); first | refine Ji ?_ | refine Jj ?_ | refine Jk rfl ?_ | refine Jy t1 ?_ | refine Jy t2 ?_ | refine Jy c ?_ | refine Jy g ?_)
  refine ⟨⟨_, _, rfl, rfl, ?_⟩⟩
  exact AvLe.refl _
end Go.Proofs.YtdjfndfkjbjcpaaGreatDoor

