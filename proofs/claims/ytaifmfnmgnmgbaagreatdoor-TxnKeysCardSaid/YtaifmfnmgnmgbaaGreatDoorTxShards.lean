/- Txn: whose the keys are: what Shards tells. -/
import Derived.Test.YtaifmfnmgnmgbaaGreatDoorTxKeys
import Derived.Test.YtaifmfnmgnmgbaaGreatDoorTxRoute
import Derived.Test.YtaifmfnmgnmgbaaGreatDoorInts
namespace Go.Proofs.YtaifmfnmgnmgbaaGreatDoor.Txn
open Go.RowKit Go.My

theorem compI_all {d : Array Int} : ∀ m i, i < m → d[i]! ∈ Lib.compactUpTo d m
  | m + 1, i, h => by
    rw [Lib.compactUpTo_succ, List.mem_append]
    by_cases hi : i < m
    · exact .inl (compI_all m i hi)
    · obtain rfl : i = m := by omega
      cases hk : Lib.keeps d i with
      | true => right; simp
      | false =>
        left
        unfold Lib.keeps at hk
        have := of_decide_eq_false hk
        by_cases h0 : i = 0
        · exact absurd (.inl h0) this
        · have e : d[i]! = d[i - 1]! := Classical.byContradiction fun h => this (.inr h)
          rw [e]
          exact compI_all i (i - 1) (by omega)
theorem compI_of {d : Array Int} {m : Nat} {x : Int} (h : x ∈ Lib.compactUpTo d m) : ∃ i, i < m ∧ x = d[i]! := by
  unfold Lib.compactUpTo at h
  obtain ⟨i, hi, rfl⟩ := List.mem_map.1 h
  exact ⟨i, List.mem_range.1 (List.mem_filter.1 hi).1, rfl⟩
theorem compI_lt {d : Array Int} {m : Nat} (hm : m ≤ d.size) (h : ∀ i j, i < j → j < d.size → d[i]! ≤ d[j]!) : (Lib.compactUpTo d m).Pairwise (· < ·) := by
  unfold Lib.compactUpTo
  refine List.pairwise_map.2 ?_
  have h1 : ((List.range m).filter (Lib.keeps d)).Pairwise (· < ·) := List.Pairwise.filter _ List.pairwise_lt_range
  refine h1.imp_of_mem fun {i j} hi hj hij => ?_
  obtain ⟨h2, h3⟩ := List.mem_filter.1 hj
  have hjm := List.mem_range.1 h2
  unfold Lib.keeps at h3
  rcases of_decide_eq_true h3 with h0 | hne
  · omega
  · have a1 : d[j - 1]! ≤ d[j]! := h (j - 1) j (by omega) (by omega)
    have a2 : d[j - 1]! < d[j]! := by omega
    by_cases e : i = j - 1
    · rw [e]; exact a2
    · have a3 := h i (j - 1) (by omega) (by omega)
      omega
/-- the shards of a transaction's keys, rising -/
def ownS (L : List Route.Pc) (k : ByteArray) : Int := (Route.ow Route.pc0 L k).sh
def shardsL (L : List Route.Pc) (t : Tx) : List Int := Lib.compact (Ints.sortI ((keysT t).map (ownS L)))
theorem sortI_mem {l : List Int} {z : Int} : z ∈ Ints.sortI l ↔ z ∈ l := by
  unfold Ints.sortI
  exact (List.mergeSort_perm _ _).mem_iff
theorem sortI_len (l : List Int) : (Ints.sortI l).length = l.length := List.length_mergeSort _
theorem shards_mem {L : List Route.Pc} {t : Tx} {z : Int} : z ∈ shardsL L t ↔ ∃ k ∈ keysT t, ownS L k = z := by
  have e0 : (∃ k ∈ keysT t, ownS L k = z) ↔ z ∈ Ints.sortI ((keysT t).map (ownS L)) := by rw [sortI_mem, List.mem_map]
  rw [e0]
  unfold shardsL Lib.compact
  constructor
  · intro h
    obtain ⟨i, hi, rfl⟩ := compI_of h
    rw [getElem!_pos _ _ (by rw [List.size_toArray]; exact hi)]
    simp
  · intro h
    obtain ⟨i, hi, e⟩ := List.mem_iff_getElem.1 h
    have := compI_all (d := (Ints.sortI ((keysT t).map (ownS L))).toArray) _ i hi
    rw [getElem!_pos _ _ (by rw [List.size_toArray]; exact hi)] at this
    simp only [List.getElem_toArray] at this
    rw [e] at this
    exact this
theorem shards_lt (L : List Route.Pc) (t : Tx) : (shardsL L t).Pairwise (· < ·) := by
  have h1 : (Ints.sortI ((keysT t).map (ownS L))).Pairwise (fun x y => x ≤ y) := by
    have := List.pairwise_mergeSort (le := fun x y : Int => decide (x ≤ y)) (fun a b c => by simpa using fun h1 h2 => Int.le_trans h1 h2) (fun a b => by simpa using Int.le_total a b) ((keysT t).map (ownS L))
    exact this.imp (fun h => by simpa using h)
  unfold shardsL Lib.compact
  refine compI_lt (by simp) ?_
  intro i j hij hj
  have hj' : j < (Ints.sortI ((keysT t).map (ownS L))).length := by simpa using hj
  rw [getElem!_pos _ _ (by simpa using (Nat.lt_trans hij hj')), getElem!_pos _ _ (by simpa using hj')]
  simp only [List.getElem_toArray]
  exact List.pairwise_iff_getElem.1 h1 i j _ _ hij
theorem shards_none (L : List Route.Pc) (t : Tx) : decide ((keysT t).length = 0) = decide ((shardsL L t).length = 0) := by
  apply Bool.eq_iff_iff.2
  simp only [decide_eq_true_eq, List.length_eq_zero_iff]
  constructor
  · intro h
    refine List.eq_nil_iff_forall_not_mem.2 fun z hz => ?_
    obtain ⟨k, hk, _⟩ := shards_mem.1 hz
    rw [h] at hk
    cases hk
  · intro h
    refine List.eq_nil_iff_forall_not_mem.2 fun k hk => ?_
    have : ownS L k ∈ shardsL L t := shards_mem.2 ⟨k, hk, rfl⟩
    rw [h] at this
    cases this
theorem shards_len (L : List Route.Pc) (t : Tx) : (shardsL L t).length ≤ (keysT t).length := by
  have := Lib.compact_length_le (Ints.sortI ((keysT t).map (ownS L)))
  rw [sortI_len, List.length_map] at this
  exact this
def intL (z : Int) : List Value := [.int .i64 z]
theorem int_info : (Tryz.prog.info? 3).map (fun i => (i.zero, i.size, i.bytes)) = some (some (.int .i64 0), 1, 8) := by kernel_rfl
structure ShRel (W : World) (l : List Int) (v : Value) (wr : World) : Prop where
  row : wr.ownsRow W.heap.size 3 1 v l.length (l.map (Value.int .i64))
  below : Below W.heap.size W wr
theorem ShRel.later {W w1 w2 : World} {l : List Int} {v : Value} (h : ShRel W l v w1) (hb : Below w1.heap.size w1 w2) : ShRel W l v w2 := ⟨row_below h.row hb, h.below.trans (hb.mono h.below.size)⟩
theorem ShRel.put {W w1 w2 : World} {l : List Int} {v v2 : Value} {k : Int} (h : ShRel W l v w1) (o : Obj) (hown : w2.ownsRow W.heap.size 3 1 v2 (l.length + 1) (l.map (Value.int .i64) ++ [.int .i64 k])) (hg : (w1.alloc o).grownBy w2 v.ownBlock) : ShRel W (l ++ [k]) v2 w2 := by
  have hw : Wrote v.ownBlock.toList (w1.alloc o) w2 := Wrote.of_grown hg
  refine ⟨?_, h.below.trans ((((Wrote.refl _ w1).alloc o).trans hw).below h.below.size fun g hg => (row_block h.row (by simpa using hg)).1)⟩
  rw [List.length_append, List.map_append]
  exact hown
theorem lies_row_int {base : Nat} {w : World} {v : Value} {l : List Int} (h : w.ownsRow base 3 1 v l.length (l.map (Value.int .i64))) : ∃ a c, v = .slice a l.length c ∧ LiesAt w a 1 intL l := by
  rcases h.2 with ⟨rfl, h0⟩ | ⟨g, cap, cur, rfl, hbase, hb, h1, h2, h3, h4⟩
  · have hl0 : l = [] := List.eq_nil_of_length_eq_zero h0
    subst hl0
    exact ⟨none, 0, rfl, LiesAt.nil _ _ _ _⟩
  · refine ⟨some ⟨g, 0, none⟩, cap, rfl, ?_⟩
    intro i x hi
    have hil := (List.getElem?_eq_some_iff.1 hi).1
    refine ⟨g, 0, rfl, lt_of_heap hb, fun j u hj => ?_⟩
    cases j with
    | zero =>
      have e : u = .int .i64 x := by simpa [intL] using hj.symm
      rw [e, cell_of_row _ _ _ _ _ _ hb]
      have h5 : (cur.toList.take (l.length * 1))[i]? = (l.map (Value.int .i64))[i]? := by rw [← h4]
      rw [Nat.mul_one, List.getElem?_take_of_lt hil, List.getElem?_map, hi] at h5
      simpa using h5
    | succ j => simp [intL] at hj
theorem field_sh (W : World) (x y z : Value) : (Instr.field 66 (.agg #[x, y, z]) 1).run Tryz.prog W = .ok y W := by kernel_rfl
/-- what Shards tells -/
def ShdL (w : World) (L : List Route.Pc) (t : Tx) (e : Ending) (w' : World) : Prop :=
  ∃ a c, e = .returned (.slice a (shardsL L t).length c) ∧ LiesAt w' a 1 intL (shardsL L t) ∧ Below w.heap.size w w'
set_option maxRecDepth 100000 in
set_option maxHeartbeats 6400000 in
theorem shards_any (t : Tx) (ra : Option Addr) (rc : Nat) (wa : Option Addr) (wc : Nat) (r : Nat) (a : Option Addr) (cap : Nat) (L : List Route.Pc) (w : World) (h : TxAt w t ra wa) (hr : Route.RtAt w r a cap L) :
    Calls Tryz.prog 23 #[txV t ra rc wa wc, .pointer (some ⟨r, 0, none⟩)] w (ShdL w L t) := by
  obtain ⟨i0, hi0, hz0, hz1, hz2⟩ := info_parts int_info
  have HI := Lib.hid hi0
  have HZ := Lib.hid hz0
  have HS := Lib.hid hz1
  have HY := Lib.hid hz2
  obtain ⟨W, hW⟩ : ∃ W : World, W = w.alloc (.cells #[.int .i64 t.cl, .int .i64 t.num, .slice ra t.R.length rc, .slice wa t.W.length wc] 25) := ⟨_, rfl⟩
  obtain ⟨q, hq⟩ : ∃ q, q = w.heap.size := ⟨_, rfl⟩
  have hb : Below w.heap.size w W := by rw [hW]; exact bl_alloc _ _
  have hbx : W.heap[q]? = some (txC t ra rc wa wc) := by rw [hW, hq]; exact heap_alloc_new w _
  have HW : Hid (w.alloc (.cells #[.int .i64 t.cl, .int .i64 t.num, .slice ra t.R.length rc, .slice wa t.W.length wc] 25) = W ∧ w.heap.size = q) := ⟨hW.symm, hq.symm⟩
  have HB := Lib.hid hb
  have HRT := Lib.hid (hr.below hb)
  have HK9 : Hid ((keysT t).length ≤ 200000) := by
    have h0 := keysB_len (namedT t)
    have h1 := h.rl
    have h2 := h.wl
    show _ ≤ _
    unfold keysT
    unfold namedT at *
    rw [List.length_append, List.length_map, List.length_map] at h0
    omega
  obtain ⟨z0, z1, z2, z3⟩ := txC_cell hbx
  have HK := keys_any t ra rc wa wc W (h.below hb)
  unfold txV KysL at HK
  unfold txV
  generalize t.cl = cl at *
  generalize t.num = num at *
  generalize t.R.length = rn at *
  generalize t.W.length = wn at *
  obtain ⟨kn, hkn⟩ : ∃ kn, kn = (keysT t).length := ⟨_, rfl⟩
  rw [← hkn] at HK
  have HKK := Lib.hid HK
  have HKN := Lib.hid hkn
  have hk9 : (kn : Int) ≤ 200000 := by have := HK9.out; omega
  clear h hr hW hq hb hbx HK hkn hi0 hz0 hz1 hz2
  go_enter Tryz.func23, Tryz.ntmps23
  go_upto_region 1 with fail
  rw [HW.out.1, HW.out.2]
  go_wp2_with fail
  refine HKK.out.mono ?_
  rintro e w1 ⟨ka, kc, rfl, hkl, hb1⟩
  have HB1 := Lib.hid hb1
  have HKL := Lib.hid hkl
  have P13 : Hid (ShRel w1 [] (.slice none 0 0) w1 ∧ [] = ((keysT t).take 0).map (ownS L)) := ⟨⟨World.ownsRow_nil _ _ _ _, Below.refl _ _⟩, rfl⟩
  clear hb1 hkl z0 z1 z2 z3 HKK
  go_wp2_with fail
  go_loopw [5, 13] (fun v i wr => ∃ (j : Nat) (l : List Int), j ≤ kn ∧ i = .int .i64 j ∧ Hid (ShRel w1 l v wr ∧ l = ((keysT t).take j).map (ownS L))) (fun _ i _ => kn - (intOf i).toNat)
  case atStart => exact ⟨0, _, by omega, rfl, P13⟩
  case round =>
    clear P13
    obtain ⟨j, l, hj, rfl, HJ⟩ := hrel
    by_cases hlt : j < kn
    · obtain ⟨k, hk⟩ : ∃ k, (keysT t)[j]? = some k := ⟨_, List.getElem?_eq_getElem (by rw [← HKN.out]; exact hlt)⟩
      have HXJ : Hid (((keysT t).take (j + 1)).map (ownS L) = ((keysT t).take j).map (ownS L) ++ [ownS L k]) := by
        show _ = _
        rw [List.take_add_one, hk, List.map_append]
        rfl
      obtain ⟨g, o, rfl, lg, d0⟩ := LiesAt.at1 (e := fun s => .string s) (HKL.out.below HJ.out.1.below) hk
      have hbr : Below W.heap.size W wr := bl_trans HB1.out HJ.out.1.below
      have HO := Route.owner_12 r a cap L k wr (HRT.out.below hbr)
      unfold Route.PcLeft Route.pcA at HO
      obtain ⟨⟨pk, sh, ep⟩, hp⟩ : ∃ p, p = Route.ow Route.pc0 L k := ⟨_, rfl⟩
      have HSH : Hid (ownS L k = sh) := by
        show (Route.ow Route.pc0 L k).sh = sh
        rw [← hp]
      rw [← hp] at HO
      simp only at HO
      have HOO := Lib.hid HO
      have HLEN : Hid (l.length ≤ 200000) := by
        have h1 : ((keysT t).take j).length ≤ j := by rw [List.length_take]; omega
        show _ ≤ _
        rw [HJ.out.2, List.length_map]
        omega
      have hj0 : (0 : Int) ≤ (j : Int) := by omega
      have hj1 : (j : Int) < (kn : Int) := by omega
      clear hk lg hbr HO hp
      go_wp2_with fail
      refine HOO.out.mono ?_
      rintro e w3 ⟨rfl, hb3⟩
      have H1 : Hid (ShRel w1 l u5 w3) := HJ.out.1.later hb3
      have hf := field_sh w3 (.string pk) (.int .i64 sh) (.int .i64 ep)
      clear hb3 d0 HOO
      go_wp2_with (at_builtin; refine wpList_append_own _ rfl _ _ 63 rfl w1.heap.size 3 i0 (.int .i64 0) 1 8 Tryz.underlying63 HI.out HZ.out HS.out HY.out rfl (by decide) _ _ _ rfl (H1.out.row.alloc _) ⟨w3.heap.size, 0, none⟩ 1 1 [.int .i64 sh] rfl rfl (cell_one_new _ _ _) (by simp [Value.oneCell']) (by have := HLEN.out; unfold maxLen; omega) (by have := HLEN.out; omega) (by have := H1.out.below.size; simp; omega) ?_)
      intro v1 w4 hown1 hgrow1 _
      have HN : Hid (ShRel w1 (l ++ [sh]) v1 w4 ∧ l ++ [sh] = ((keysT t).take (j + 1)).map (ownS L)) := by
        refine ⟨H1.out.put _ hown1 hgrow1, ?_⟩
        rw [HXJ.out, ← HJ.out.2, HSH.out]
      clear hown1 hgrow1
      go_wp2_with fail
      exact ⟨⟨j + 1, _, by omega, by simp, HN⟩, by simp [intOf]; omega⟩
    · obtain rfl : kn = j := by omega
      have hall : ShRel w1 ((keysT t).map (ownS L)) u5 wr := by
        have := HJ.out.2
        rw [List.take_of_length_le (by rw [HKN.out]; exact Nat.le_refl _)] at this
        rw [← this]
        exact HJ.out.1
      have hnl : ((keysT t).map (ownS L)).length ≤ 200000 := by
        rw [List.length_map]
        exact HK9.out
      have HSO := Lib.hid (Ints.sort_int (l := (keysT t).map (ownS L)) hall.row (by omega))
      have HB2 := Lib.hid hall.below
      have HLN : Hid (((keysT t).map (ownS L)).length ≤ 200000 ∧ (wr.ownsRow w1.heap.size 3 1 u5 ((keysT t).map (ownS L)).length (((keysT t).map (ownS L)).map (Value.int .i64)))) := ⟨hnl, hall.row⟩
      clear hall hnl hlt HJ
      go_wp2_with fail
      refine HSO.out.mono ?_
      rintro e w2 ⟨rfl, hrow, hg⟩
      have hb2 : Below w1.heap.size w1 w2 := HB2.out.trans ((Wrote.of_grown hg).below HB2.out.size fun g hg' => (row_block HLN.out.2 (by simpa using hg')).1)
      have hrow2 : w2.ownsRow w1.heap.size 3 1 u5 (Ints.sortI ((keysT t).map (ownS L))).length ((Ints.sortI ((keysT t).map (ownS L))).map (Value.int .i64)) := by
        rw [sortI_len]
        exact hrow
      have HCO := Lib.hid (Ints.compact_int hrow2 (by rw [sortI_len]; have := HLN.out.1; omega))
      have HB3 := Lib.hid hb2
      clear hrow hg hb2 hrow2 HSO
      go_wp2_with fail
      refine HCO.out.mono ?_
      rintro e w3 ⟨v', rfl, hrow3, hbl3⟩
      obtain ⟨a', c', hv, hla⟩ := lies_row_int (l := shardsL L t) hrow3
      have HFI : Hid (ShdL w L t (.returned v') w3) := ⟨a', c', by rw [hv], hla, bl_trans (bl_trans HB.out HB1.out) (hbl3 w1 HB3.out)⟩
      clear hrow3 hbl3 hv hla HCO
      go_wp2_with fail
      go_ret
      exact HFI.out
end Go.Proofs.YtaifmfnmgnmgbaaGreatDoor.Txn
