/- The walk of arith.Divisors. -/
import Derived.Test.YtdjfndfkjbjcpaaGreatDoorAriR
import Derived.Test.YtdjfndfkjbjcpaaGreatDoorRefI
import Derived.Test.YtdjfndfkjbjcpaaGreatDoorShelf
import Derived.Sort.OwnSortedInts
namespace Go.Proofs.YtdjfndfkjbjcpaaGreatDoor
open Go.RowKit HP

theorem addr_add (g k : Nat) : (⟨g, 0, none⟩ : Addr).add k = ⟨g, k, none⟩ := by
  simp only [Addr.add]
  split
  · next h => simp_all
  · simp
theorem run_append_keep {P : Program} (w : World) (base : Nat) (t ty e : TypeId) (i : TypeInfo) (z : Value) (bytes : Nat) (ht : P.underlying t = some (.slice e)) (hi : P.info? e = some i) (hz : i.zero = some z)
    (hsize : i.size = 1) (hby : i.bytes = bytes) (hzs : z.cells.size = 1)
    (v : Value) (n : Nat) (xs : List Value) (hown : w.ownsRow base e 1 v n xs)
    (a : Addr) (m c : Nat) (news : List Value) (hl : news.length = m * 1) (hnews : ∀ j u, news[j]? = some u → w.cell? (a.add j) = some u) (h1 : ∀ u ∈ news, u.oneCell' = true)
    (h63 : n + m ≤ maxLen) (hbytes : (n + m) * bytes ≤ 140737488355328) (hbase : base ≤ w.heap.size) :
    ∃ v' w', (Builtin.append_ #[t, t] ty #[v, .slice (some a) m c]).run P w = .ok v' w' ∧ w'.ownsRow base e 1 v' (n + m) (xs ++ news) ∧ w.grownBy w' v.ownBlock ∧ (v'.ownBlock = v.ownBlock ∨ v'.ownBlock = some w.heap.size) ∧
      (∀ g k u, v.ownBlock = some g → xs[k]? = some u → w'.cell? ⟨g, k, none⟩ = some u) := by
  obtain ⟨v', w', hr, h2, h3, h4, h5⟩ := run_append_own_at (P := P) w base t ty e i z 1 bytes ht hi hz hsize hby hzs (by omega) v n xs hown a m c news hl hnews h1 h63 hbytes hbase
  refine ⟨v', w', hr, h2, h3, h5, fun g k u hg hk => ?_⟩
  have hc0 := hown.cells hg k u hk
  have hc : w.cell? ⟨g, k, none⟩ = some u := by rw [← addr_add]; exact hc0
  have hglt := (hown.lt g hg).2
  rcases h5 with h5 | h5
  · have hk2 : (xs ++ news)[k]? = some u := by
      have hkl : k < xs.length := (List.getElem?_eq_some_iff.1 hk).1
      rw [List.getElem?_append_left hkl]; exact hk
    have := h2.cells (h5.trans hg) k u hk2
    rw [← addr_add]; exact this
  · rcases hown.2 with ⟨rfl, h0⟩ | ⟨g', cap, cur, rfl, hbg, hgg, hnc, hcm, hcs, htake⟩
    · cases hg
    · obtain rfl : g' = g := Option.some.inj hg
      have hlx : xs.length = n * i.size := by rw [hown.1, hsize]
      have hln : news.length = m * i.size := by rw [hl, hsize]
      by_cases hroom : n + m ≤ cap
      · have hfit : n * i.size + news.length ≤ cur.size := by rw [hl, hcs, hsize]; omega
        have hr2 := run_append_room (P := P) w t ty e i ht hi g' n cap cur hgg a m c news hln hnews h1 hroom hfit
        rw [hr] at hr2
        injection hr2 with e1 e2
        subst e1
        have : g' = w.heap.size := Option.some.inj h5
        omega
      · have holds : ∀ j u, xs[j]? = some u → w.cell? ((⟨g', 0, none⟩ : Addr).add j) = some u := hown.cells (g := g') rfl
        subst hby
        have hr2 := run_append_grow (P := P) w t ty e i z ht hi hz ⟨g', 0, none⟩ n cap xs hlx holds a m c news hln hnews (by omega) (by simp only [maxLen] at h63; omega) (growslice_fits (by omega) hbytes)
        rw [hr] at hr2
        injection hr2 with e1 e2
        subst e2
        rw [World.cell?_alloc_past _ _ _ (show g' < w.drew.heap.size from hglt)]
        exact hc
theorem wpList_append_keep {P : Program} (w : World) {ops : Array Oper} {rest : List Oper} {o : Oper} {a : Act} {Q : Exit → Act → World → Prop} (hgd : o.guard = none) (s x : Operand) (t : TypeId)
    (ho : o.op = .call { callee := .builtin .append, args := #[s, x], argTypes := #[t, t] })
    (base : Nat) (e : TypeId) (i : TypeInfo) (z : Value) (bytes : Nat) (ht : P.underlying t = some (.slice e)) (hi : P.info? e = some i) (hz : i.zero = some z)
    (hsize : i.size = 1) (hby : i.bytes = bytes) (hzs : z.cells.size = 1)
    (v : Value) (n : Nat) (xs : List Value) (hs : a.eval s = v) (hown : w.ownsRow base e 1 v n xs)
    (ad : Addr) (m c : Nat) (news : List Value) (hx : a.eval x = .slice (some ad) m c) (hl : news.length = m * 1) (hnews : ∀ j u, news[j]? = some u → w.cell? (ad.add j) = some u) (h1 : ∀ u ∈ news, u.oneCell' = true)
    (h63 : n + m ≤ maxLen) (hbytes : (n + m) * bytes ≤ 140737488355328) (hbase : base ≤ w.heap.size)
    (h : ∀ v' w', w'.ownsRow base e 1 v' (n + m) (xs ++ news) → w.grownBy w' v.ownBlock → (v'.ownBlock = v.ownBlock ∨ v'.ownBlock = some w.heap.size) → (∀ g k u, v.ownBlock = some g → xs[k]? = some u → w'.cell? ⟨g, k, none⟩ = some u) → wpList P ops Q rest (a.put o.dst v') w') :
    wpList P ops Q (o :: rest) a w := by
  refine wpList_plain hgd fun K hK => ?_
  obtain ⟨v', w', hr, h2, h3, h5, h4⟩ := run_append_keep (P := P) w base t o.type e i z bytes ht hi hz hsize hby hzs v n xs hown ad m c news hl hnews h1 h63 hbytes hbase
  unfold Oper.wp execOp
  simp only [ho, resolve, invoke, builtin, Sem.run_bind, Sem.run_pure, Result.andThen_ok, List.map_toArray, List.map_cons, List.map_nil, hs, hx, hr]
  exact hK _ _ (h v' w' h2 h3 h5 h4)

def RowAt (w : World) (g : Nat) (L : List Nat) : Prop := g < w.heap.size ∧ ∀ (k x : Nat), L[k]? = some x → w.cell? ⟨g, k, none⟩ = some (.int .i64 x)
theorem rowAt_append {wr w1 : World} {g b : Nat} {L : List Nat} {cur : List Int} {v v' : Value} {o : Obj} (hgb : g ≠ b) (h : RowAt wr g L) (hpre : ∀ (k x : Nat), L[k]? = some x → cur[k]? = some (x : Int)) (hg : (wr.alloc o).grownBy w1 v.ownBlock)
    (hkeep : ∀ g k u, v.ownBlock = some g → (intCells cur)[k]? = some u → w1.cell? ⟨g, k, none⟩ = some u) : RowAt (w1.setCell ⟨b, 0, none⟩ v') g L := by
  refine ⟨?_, fun k x hk => ?_⟩
  · have := hg.size
    have h2 : (w1.setCell ⟨b, 0, none⟩ v').heap.size = w1.heap.size := by simp [World.setCell]
    rw [h2]
    simp at this
    have := h.1
    omega
  · rw [World.cell?_setCell_other _ _ _ _ (fun e => hgb (congrArg Addr.block e).symm)]
    by_cases hv : v.ownBlock = some g
    · exact hkeep g k _ hv (intCells_at (hpre k x hk))
    · have h1 := World.cell?_of_block (a := ⟨g, k, none⟩) (hg.block g (by have := h.1; simp; omega) (fun e => hv e.symm))
      rw [h1, World.cell?_alloc_past _ _ _ h.1]
      exact h.2 k x hk

theorem castL_append (l m : List Nat) : castL (l ++ m) = castL l ++ castL m := List.map_append
theorem castL_len (l : List Nat) : (castL l).length = l.length := List.length_map _
theorem castL_at {l : List Nat} {k x : Nat} (h : l[k]? = some x) : (castL l)[k]? = some (x : Int) := by unfold castL; rw [List.getElem?_map, h]; rfl
def DvW (w : World) (b : Nat) (L : List Nat) (wr : World) : Prop := VarW w b 3 1 (castL L).length (intCells (castL L)) wr
theorem dvE_prefix {p : Nat} {L : List Nat} {k x : Nat} (h : L[k]? = some x) : ∀ j, (dvE p L j)[k]? = some x
  | 0 => h
  | j + 1 => by
    have h1 := dvE_prefix (p := p) h j
    rw [dvE, List.getElem?_append_left (List.getElem?_eq_some_iff.1 h1).1]
    exact h1

set_option maxHeartbeats 2000000 in
set_option maxRecDepth 100000 in
theorem divisors1_any (p e : Nat) (L : List Nat) (b : Nat) (w wr : World) (hp : 2 ≤ p) (hp2 : p ≤ 2147483647) (hpe : p ^ e ≤ 2147483647) (he : e ≤ 2147483647) (hL0 : 0 < L.length) (hL : L.length * (e + 1) ≤ 2147483647) (hLb : ∀ x ∈ L, x * p ^ e ≤ 2147483647) (hW : DvW w b L wr) :
    Calls Tryz.prog 88 #[.int .i64 p, .int .i64 e, .pointer (some ⟨b, 0, none⟩)] wr fun x' w' => x' = .returned (.tuple #[]) ∧ DvW w b (dvE p L e) w' := by
  obtain ⟨i0, hi, hz0, hz1, hz2⟩ := info_parts infoInt
  have hpj : ∀ j, j ≤ e → p ^ j ≤ 2147483647 := fun j hj => Nat.le_trans (Nat.pow_le_pow_right (by omega) hj) hpe
  have HPJ := Lib.hid hpj
  have HLB := Lib.hid hLb
  have HW := Lib.hid hW
  obtain ⟨v, hc, hf, hown, _, hB, hb, hbel⟩ := hW
  have hlen : (castL L).length = L.length := castL_len L
  obtain ⟨g0, cap0, hv⟩ := ownsRow_form hown (by omega)
  subst hv
  clear hpj hLb hbel hown hpe
  generalize castL L = CL at hlen hc
  rw [hlen] at hc
  go_enter Tryz.func88, Tryz.ntmps88
  go_wp2
  have hst : DvW w b (dvE p L 0) wr := HW.out
  have HST := Lib.hid hst
  clear hst hf hb hc HW
  go_loopw [1, 6] (fun y1 y6 wo => ∃ (j m q : Nat), y1 = .int .i64 m ∧ y6 = .int .i64 q ∧ j + m = e ∧ q ≤ 4611686014132420609 ∧ Hid (q = p ^ (j + 1)) ∧ Hid (DvW w b (dvE p L j) wo)) (fun y _ _ => (intOf y).toNat)
  case atStart => exact ⟨0, e, p, rfl, rfl, by omega, by omega, by rw [Hid, Nat.pow_one], HST.out⟩
  case round =>
    obtain ⟨j, m, q, rfl, rfl, hjm, hq, HQ, HD⟩ := hrel
    by_cases hm : m = 0
    · subst hm
      obtain rfl : j = e := by omega
      go_wp2
      go_end0
      exact ⟨rfl, HD.out⟩
    · have hD := HD.out
      have hDl : (dvE p L j).length = L.length * (j + 1) := dvE_len p L j
      have hDl2 : L.length * (j + 1) ≤ L.length * (e + 1) := Nat.mul_le_mul_left _ (by omega)
      have hDl3 : L.length ≤ L.length * (j + 1) := Nat.le_mul_of_pos_right _ (by omega)
      have hqe : q ≤ 2147483647 := by rw [HQ.out]; exact HPJ.out (j + 1) (by omega)
      have hxq : ∀ x ∈ L, x * q ≤ 2147483647 := fun x hx => by
        refine Nat.le_trans (Nat.mul_le_mul_left x ?_) (HLB.out x hx)
        rw [HQ.out]
        exact Nat.pow_le_pow_right (by omega) (by omega)
      have HXQ := Lib.hid hxq
      have hnext : dvE p L j ++ L.map (· * q) = dvE p L (j + 1) := by rw [dvE, HQ.out]
      have hpre : ∀ (k x : Nat), L[k]? = some x → (dvE p L j)[k]? = some x := fun k x h => dvE_prefix h j
      have hql : q * p = p ^ (j + 1 + 1) := by rw [HQ.out, ← Nat.pow_succ]
      have hlj : L.length * (j + 1) + L.length ≤ 2147483647 := by
        have : L.length * (j + 1) + L.length = L.length * (j + 2) := by rw [show j + 2 = (j + 1) + 1 by omega, Nat.mul_add L.length (j + 1) 1, Nat.mul_one]
        rw [this]
        exact Nat.le_trans (Nat.mul_le_mul_left _ (by omega)) hL
      generalize dvE p L j = D at *
      generalize hD' : dvE p L (j + 1) = D' at *
      have HD' := Lib.hid hD'
      have hmd : decide (0 < m) = true := by rw [decide_eq_true_iff]; omega
      obtain ⟨v, hc, hf, hown, hnb, _, hb, hbel⟩ := hD
      rw [castL_len] at hown
      obtain ⟨g, cap, hv⟩ := ownsRow_form hown (by omega)
      subst hv
      have hcap : D.length ≤ cap := by
        rcases hown.2 with ⟨h, _⟩ | ⟨g', cap', cur, h, _, _, h3, _⟩
        · cases h
        · cases h; exact h3
      have hgb : g ≠ b := fun h => hnb (by rw [h]; rfl)
      have hrow : RowAt wr g L := ⟨(hown.lt g rfl).2, fun k x h => (hown.cellAt k (by have := (List.getElem?_eq_some_iff.1 h).1; omega)).trans (intCells_at (castL_at (hpre k x h)))⟩
      have HROW := Lib.hid hrow
      have HNEXT := Lib.hid hnext
      have HPRE := Lib.hid hpre
      have HQL := Lib.hid hql
      have hLcap : L.length ≤ cap := by omega
      have hDm : D.length + L.length ≤ 2147483647 := by omega
      clear hown hbel hrow hnext hpre hql hxq hnb HLB HST HQ hDl hDl2 hlj hD'
      go_wp2
      go_loopw [23] (fun y wi => ∃ (i : Nat), y = .int .i64 i ∧ i ≤ L.length ∧ Hid (DvW w b (D ++ (L.take i).map (· * q)) wi) ∧ Hid (RowAt wi g L)) (fun y _ => L.length - (intOf y).toNat)
      case atStart => exact ⟨0, rfl, by omega, by rw [List.take_zero, List.map_nil, List.append_nil]; exact HD, HROW⟩
      case round =>
        clear hc hf hb
        obtain ⟨i, rfl, hi1, HDi, HRi⟩ := hrel
        by_cases hil : i < L.length
        · obtain ⟨x, hx⟩ : ∃ x, L[i]? = some x := ⟨L[i]'hil, List.getElem?_eq_getElem hil⟩
          have hcell := HRi.out.2 i x hx
          have hxb := HXQ.out x (List.mem_of_getElem? hx)
          have hnx : D ++ (L.take i).map (· * q) ++ [x * q] = D ++ (L.take (i + 1)).map (· * q) := by
            rw [List.take_add_one, hx, List.map_append, List.append_assoc]; rfl
          have hprei : ∀ (k y : Nat), L[k]? = some y → (castL (D ++ (L.take i).map (· * q)))[k]? = some (y : Int) := fun k y h => by
            apply castL_at
            have := HPRE.out k y h
            rw [List.getElem?_append_left (List.getElem?_eq_some_iff.1 this).1]
            exact this
          have hEl : (D ++ (L.take i).map (· * q)).length = D.length + i := by
            rw [List.length_append, List.length_map, List.length_take, Nat.min_eq_left hi1]
          have hD := HDi.out
          generalize D ++ (L.take i).map (· * q) = E at *
          obtain ⟨v, hc, hf, hown, hnb', hB', hb, hbel⟩ := hD
          have hszr := hbel.size
          have hxq : ((x * q : Nat) : Int) = (x : Int) * q := by simp
          have hxq2 : (x : Int) * q ≤ 2147483647 := by rw [← hxq]; exact Int.ofNat_le.2 hxb
          have hxq1 : 0 ≤ (x : Int) * q := by rw [← hxq]; exact Int.natCast_nonneg _
          have HNX := Lib.hid hnx
          have HPI := Lib.hid hprei
          have HBEL := Lib.hid hbel
          have HXX := Lib.hid hxq
          have hlc : (castL E).length = E.length := castL_len E
          clear hnx hprei hbel hx HDi hxq
          go_wp2_with (at_builtin; first
            | refine wpList_append_keep _ rfl _ _ 55 rfl w.heap.size 3 i0 (.int .i64 0) 8 Tryz.underlying55 hi hz0 hz1 hz2 rfl _ _ _ rfl (hown.alloc _) ⟨wr.heap.size, 0, none⟩ 1 1 [.int .i64 ((x : Int) * q)] rfl rfl (cell_one_new _ _ _) (one_one _ _) (by unfold maxLen; omega) (by omega) (by simp; omega) ?_)
          intro v' w1 hown' hgrow hat hkeep
          obtain ⟨k1, k2, k3⟩ := varW_store hB' hb HBEL.out hc hf hnb' hown hown' hgrow hat
          have k4 := rowAt_append (v' := v') hgb HRi.out HPI.out hgrow hkeep
          obtain ⟨g1, cap1, rfl⟩ := ownsRow_form hown' (by omega)
          have K3 := Lib.hid k3
          have K4 := Lib.hid k4
          clear hown' hgrow hown hc hf k3 k4 hkeep hat hnb'
          go_wp2
          go_roundw
          case rel =>
            refine ⟨i + 1, by go_num, by omega, ?_, K4.out⟩
            rw [← HNX.out]
            have e1 : castL (E ++ [x * q]) = castL E ++ [(x : Int) * q] := by rw [castL_append, ← HXX.out]; rfl
            have e2 : intCells (castL E ++ [(x : Int) * q]) = intCells (castL E) ++ [.int .i64 ((x : Int) * q)] := by unfold intCells; rw [List.map_append]; rfl
            show VarW _ _ _ _ _ _ _
            rw [e1, e2, List.length_append, hlc, hEl]
            exact K3.out
          case measure => simp [intOf]; omega
        · obtain rfl : i = L.length := by omega
          have hfin : D ++ (L.take L.length).map (· * q) = D' := by rw [List.take_length]; exact HNEXT.out
          have hDf := HDi.out
          rw [hfin] at hDf
          have HDF := Lib.hid hDf
          have hqp : (q : Int) * p = ((q * p : Nat) : Int) := by simp
          have hqp2 : q * p ≤ 2147483647 * 2147483647 := Nat.mul_le_mul hqe hp2
          have hqp3 : 0 ≤ (q : Int) * p := by rw [hqp]; exact Int.natCast_nonneg _
          have hqp4 : (q : Int) * p ≤ 4611686014132420609 := by rw [hqp]; exact Int.ofNat_le.2 hqp2
          have HQP := Lib.hid hqp
          clear hDf hfin HDi HRi HNEXT HPRE HXQ hqp
          go_wp2
          go_roundw
          case rel => exact ⟨j + 1, m - 1, q * p, by rw [Int.natCast_sub (by omega)]; rfl, by rw [← HQP.out], by omega, by omega, HQL.out, by rw [HD'.out]; exact HDF.out⟩
          case measure => simp [intOf]; omega

theorem enters88 (args : Array Value) (w : World) : (callFunc 88 args).run Tryz.prog w = .ok (.enter 88 args) w := enters_of Tryz.func88 (by kernel_rfl) rfl args w

theorem div_round {N : Nat} (hN : 0 < N) {l r : List (Nat × Nat)} {p e : Nat} (h : facs N = l ++ (p, e) :: r) :
    2 ≤ p ∧ p ≤ N ∧ p ^ e ≤ N ∧ e ≤ N ∧ 0 < (dvF [1] l).length ∧ (dvF [1] l).length * (e + 1) ≤ N ∧ (∀ x ∈ dvF [1] l, x * p ^ e ≤ N) ∧ dvF [1] (l ++ [(p, e)]) = dvE p (dvF [1] l) e := by
  have hm : (p, e) ∈ facs N := by rw [h]; simp
  obtain ⟨x1, x2, x3, x4, x5, x6, _⟩ := facs_bounds hN hm
  have h' : facs N = (l ++ [(p, e)]) ++ r := by rw [h, List.append_assoc]; rfl
  have e1 : dvF [1] (l ++ [(p, e)]) = dvE p (dvF [1] l) e := by rw [dvF_append]; rfl
  have hl1 := dvF_length hN h
  have hl2 := dvF_length hN h'
  rw [e1, dvE_len] at hl2
  refine ⟨x2, x4, x6, x5, hl1.2, hl2.1, fun x hx => ?_, e1⟩
  have h1 := dvF_pre hN h x hx
  have h2 : x * p ^ e ∣ N := by
    have h3 : natL l * (p ^ e * natL r) = N := by
      rw [← natL_facs N hN, h, natL_append]; rfl
    rw [← h3, ← Nat.mul_assoc]
    exact Nat.dvd_trans (Nat.mul_dvd_mul_right h1 _) ⟨natL r, rfl⟩
  exact Nat.le_of_dvd hN h2

theorem dvW_start (w : World) (t : TypeId) : DvW w (w.heap.size + 1) [1] ((w.alloc (.cells #[.int .i64 1] 3)).alloc (.cells #[.slice (some ⟨w.heap.size, 0, none⟩) 1 1] t)) := by
  refine ⟨.slice (some ⟨w.heap.size, 0, none⟩) 1 1, ?_, ?_, ⟨rfl, .inr ⟨w.heap.size, 1, #[.int .i64 1], rfl, Nat.le_refl _, ?_, Nat.le_refl 1, by decide, rfl, rfl⟩⟩, ?_, by omega, by simp, ((Below.refl _ _).alloc (Nat.le_refl _) _).alloc (by simp) _⟩
  · rw [World.cell?_alloc_at _ _ _ _ (by simp)]; rfl
  · exact World.frozen?_alloc_at _ _ _ _ (by simp)
  · rw [heap_alloc_old _ _ (by simp), heap_alloc_new]
  · simp [Value.ownBlock]

set_option maxHeartbeats 1000000 in
set_option maxRecDepth 100000 in
theorem divisors_any (N : Nat) (w : World) (hN0 : 1 ≤ N) (hN : N ≤ 2147483647) :
    Calls Tryz.prog 44 #[.int .i64 N] w fun x w' => ∃ v, x = .returned (.tuple #[v, .int .i64 0]) ∧ IntsAt w.heap.size w' v (intL (dvs N)) ∧ Below w.heap.size w w' := by
  have hmf : ∀ (fn : Fn) (first cap : Array Value) (w : World), (Instr.makeFunc fn first cap).run Tryz.prog w = .ok (.func fn first cap) w := fun _ _ _ _ => rfl
  go_enter Tryz.func44, Tryz.ntmps44
  go_wp2_with (go_at_call 47; refine (inRange_yes N _ (by omega) (by omega)).mono ?_; rintro x w' ⟨rfl, rfl⟩)
  refine (factors_any 88 _ enters88 N _ (by omega) (by omega) (fun l wr => Hid (DvW w (w.heap.size + 1) (dvF [1] l) wr)) ?_ ?_).mono ?_
  · exact dvW_start w _
  · intro l p e r wr hl hI
    obtain ⟨x1, x2, x3, x4, x5, x6, x7, x8⟩ := div_round (by omega) hl
    exact (divisors1_any p e (dvF [1] l) _ w wr x1 (by omega) (by omega) (by omega) x5 (by omega) (fun x hx => Nat.le_trans (x7 x hx) hN) hI.out).mono fun x w' ⟨hx, hW⟩ => ⟨hx, by rw [x8]; exact hW⟩
  · rintro x w1 ⟨rfl, hI⟩
    obtain ⟨v, hc, hf, hown, hnb, hB, hb, hbel⟩ := hI.out
    obtain ⟨f1, f2⟩ := dvF_facs (N := N) (by omega)
    have hsort := sort_dvs (N := N) (by omega) f1 f2
    have hlen := dvF_length (N := N) (by omega) (l := facs N) (r := []) (by simp)
    have hcl := castL_len (dvF [1] (facs N))
    generalize dvF [1] (facs N) = D at *
    generalize castL D = zs at *
    obtain ⟨g, cap, rfl⟩ := ownsRow_form hown (by omega)
    rcases hown.2 with ⟨h, _⟩ | ⟨g', cap', cur, hv, hg1, hg2, hg3, hg4, hg5, hg6⟩
    · cases h
    · obtain ⟨rfl, rfl⟩ : g = g' ∧ cap = cap' := by
        simp at hv; exact hv
      have hgs := (Array.getElem?_eq_some_iff.1 hg2).1
      have hH := holds_of_blockI (ss := zs) hg2 (by rw [Nat.mul_one] at hg6; exact hg6)
      have HOWN := Lib.hid (fun n os => ownsRow_sortedI (w := w1) (base := w.heap.size) (n := n) (os := os) (ss := zs) (ts := zs.mergeSort fun x y => decide (x ≤ y)) (List.length_mergeSort _) hg1 hg2 hg3 hg4 hg5)
      have hgr : ∀ n os, w1.grownBy (Go.Sort.grow (Go.Sort.putRow (Value.int .i64) (Go.Sort.ahead w1 n) g 0 (zs.mergeSort fun x y => decide (x ≤ y)).toArray) os) (some g) := fun n os => grownBy_sortedI _
      have HGR := Lib.hid hgr
      have HH := Lib.hid hH
      have HSORT := Lib.hid hsort
      have HBEL := Lib.hid hbel
      have hsz := hbel.size
      have hgb : g ≠ w.heap.size + 1 := fun h => hnb (by rw [h]; rfl)
      have hzl : zs.length ≤ 2147483647 := by omega
      have hts : (zs.mergeSort fun x y => decide (x ≤ y)).length = zs.length := List.length_mergeSort _
      clear hown hv hg6 hgr hH hsort hbel hI f1 f2 hg2 hcl
      go_wp2_with fail
      refine (Tryz.slices_Sort_int g 0 cap zs _ HH.out hgs (by omega)).mono ?_
      rintro x w2 ⟨rfl, n, os, hw2⟩
      have ho := HOWN.out n os
      have hgr := HGR.out n os
      rw [← hw2] at ho hgr
      rw [HSORT.out] at ho hts
      have hc2 : w2.cell? ⟨w.heap.size + 1, 0, none⟩ = some (.slice (some ⟨g, 0, none⟩) zs.length cap) := by
        rw [World.cell?_of_block (hgr.block (w.heap.size + 1) hb (fun e => hgb (Option.some.inj e).symm))]
        exact hc
      have hbel2 : Below w.heap.size w w2 := HBEL.out.grown hgr hsz (fun k hk => by have := Option.some.inj hk; omega)
      have hres : IntsAt w.heap.size w2 (.slice (some ⟨g, 0, none⟩) zs.length cap) (intL (dvs N)) := by
        refine intsAt_of_owns (t := 3) ?_
        have e : (intL (dvs N)).length = zs.length := hts
        rw [e]
        exact ho
      have HRES := Lib.hid hres
      have HB2 := Lib.hid hbel2
      clear hres hbel2 ho hgr hw2 hts hc
      go_wp2
      go_ret2
      exact ⟨_, rfl, HRES.out, HB2.out⟩
end Go.Proofs.YtdjfndfkjbjcpaaGreatDoor
