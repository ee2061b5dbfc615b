/- Txn: what Keys tells. -/
import Derived.Test.YtaifmfnmgnmgbaaGreatDoorTxKeysP
import Derived.Test.YtaifmfnmgnmgbaaGreatDoorTxOwn
import Derived.Test.YtaifmfnmgnmgbaaGreatDoorSortStr
import Derived.Test.YtaifmfnmgnmgbaaGreatDoorCompStr
import Derived.OwnWalk
namespace Go.Proofs.YtaifmfnmgnmgbaaGreatDoor.Txn
open Go.RowKit Go.My

theorem strg_info : (Tryz.prog.info? 9).map (fun i => (i.zero, i.size, i.bytes)) = some (some (.string ⟨#[]⟩), 1, 16) := by kernel_rfl
structure KyRel (W : World) (l : List ByteArray) (v : Value) (wr : World) : Prop where
  row : wr.ownsRow W.heap.size 9 1 v l.length (l.map Value.string)
  below : Below W.heap.size W wr
theorem KyRel.alloc {W wr : World} {l : List ByteArray} {v : Value} (h : KyRel W l v wr) (o : Obj) : KyRel W l v (wr.alloc o) := ⟨h.row.alloc _, h.below.alloc h.below.size _⟩
theorem KyRel.put {W w1 w2 : World} {l : List ByteArray} {v v2 : Value} {k : ByteArray} (h : KyRel W l v w1) (o : Obj) (hown : w2.ownsRow W.heap.size 9 1 v2 (l.length + 1) (l.map Value.string ++ [.string k])) (hg : (w1.alloc o).grownBy w2 v.ownBlock) : KyRel W (l ++ [k]) v2 w2 := by
  have hw : Wrote v.ownBlock.toList (w1.alloc o) w2 := Wrote.of_grown hg
  refine ⟨?_, h.below.trans ((((Wrote.refl _ w1).alloc o).trans hw).below h.below.size fun g hg => (row_block h.row (by simpa using hg)).1)⟩
  rw [List.length_append, List.map_append]
  exact hown
theorem lies_row_str {base : Nat} {w : World} {v : Value} {l : List ByteArray} (h : w.ownsRow base 9 1 v l.length (l.map Value.string)) : ∃ a c, v = .slice a l.length c ∧ LiesAt w a 1 strL l := by
  rcases h.2 with ⟨rfl, h0⟩ | ⟨g, cap, cur, rfl, hbase, hb, h1, h2, h3, h4⟩
  · have hl0 : l = [] := List.eq_nil_of_length_eq_zero h0
    subst hl0
    exact ⟨none, 0, rfl, LiesAt.nil _ _ _ _⟩
  · refine ⟨some ⟨g, 0, none⟩, cap, rfl, ?_⟩
    intro i x hi
    have hil := (List.getElem?_eq_some_iff.1 hi).1
    refine ⟨g, 0, rfl, lt_of_heap hb, fun j u hj => ?_⟩
    cases j with
    | zero =>
      have e : u = .string x := by simpa [strL] using hj.symm
      rw [e, cell_of_row _ _ _ _ _ _ hb]
      have h5 : (cur.toList.take (l.length * 1))[i]? = (l.map Value.string)[i]? := by rw [← h4]
      rw [Nat.mul_one, List.getElem?_take_of_lt hil, List.getElem?_map, hi] at h5
      simpa using h5
    | succ j => simp [strL] at hj
/-- what Keys tells -/
def KysL (w : World) (t : Tx) (e : Ending) (w' : World) : Prop :=
  ∃ a c, e = .returned (.slice a (keysT t).length c) ∧ LiesAt w' a 1 strL (keysT t) ∧ Below w.heap.size w w'
set_option maxRecDepth 100000 in
set_option maxHeartbeats 6400000 in
theorem keys_any (t : Tx) (ra : Option Addr) (rc : Nat) (wa : Option Addr) (wc : Nat) (w : World) (h : TxAt w t ra wa) :
    Calls Tryz.prog 15 #[txV t ra rc wa wc] w (KysL w t) := by
  obtain ⟨i0, hi0, hz0, hz1, hz2⟩ := info_parts strg_info
  have HI := Lib.hid hi0
  have HZ := Lib.hid hz0
  have HS := Lib.hid hz1
  have HY := Lib.hid hz2
  obtain ⟨W, hW⟩ : ∃ W : World, W = w.alloc (.cells #[.int .i64 t.cl, .int .i64 t.num, .slice ra t.R.length rc, .slice wa t.W.length wc] 25) := ⟨_, rfl⟩
  obtain ⟨q, hq⟩ : ∃ q, q = w.heap.size := ⟨_, rfl⟩
  have hb : Below w.heap.size w W := by rw [hW]; exact bl_alloc _ _
  have hbx : W.heap[q]? = some (txC t ra rc wa wc) := by rw [hW, hq]; exact heap_alloc_new w _
  have HW : Hid (w.alloc (.cells #[.int .i64 t.cl, .int .i64 t.num, .slice ra t.R.length rc, .slice wa t.W.length wc] 25) = W ∧ w.heap.size = q) := ⟨hW.symm, hq.symm⟩
  have HB := Lib.hid hb
  have HR := Lib.hid (h.below hb).r
  have HWW := Lib.hid (h.below hb).w
  obtain ⟨z0, z1, z2, z3⟩ := txC_cell hbx
  unfold txV
  obtain ⟨rn, hrn⟩ : ∃ rn, rn = t.R.length := ⟨_, rfl⟩
  obtain ⟨wn, hwn⟩ : ∃ wn, wn = t.W.length := ⟨_, rfl⟩
  have HF : Hid (rn = t.R.length ∧ wn = t.W.length ∧ t.R.length ≤ 100000 ∧ t.W.length ≤ 100000) := ⟨hrn, hwn, h.rl, h.wl⟩
  have hr9 := h.rl
  have hw9 := h.wl
  have HZ3 : Hid (∀ X, Below W.heap.size W X → X.cell? ⟨q, 3, none⟩ = some (.slice wa wn wc)) := fun X hX => by
    rw [hwn]
    exact (txC_cell ((hX.block _ (lt_of_heap hbx)).trans hbx)).2.2.2
  rw [← hrn] at z2 hr9
  rw [← hwn] at z3 hw9
  rw [← hrn, ← hwn] at HW ⊢
  have hri : (rn : Int) ≤ 100000 := by omega
  have hwi : (wn : Int) ≤ 100000 := by omega
  have P11 : Hid (KyRel W [] (.slice none 0 0) W ∧ [] = (t.R.take 0).map (·.key)) := ⟨⟨World.ownsRow_nil _ _ _ _, Below.refl _ _⟩, rfl⟩
  clear h hW hq hb hbx hrn hwn hr9 hw9 hi0 hz0 hz1 hz2
  go_enter Tryz.func15, Tryz.ntmps15
  go_upto_region 1 with fail
  rw [HW.out.1, HW.out.2]
  go_wp2_with fail
  go_loopw [3, 11] (fun v i wr => ∃ (j : Nat) (l : List ByteArray), j ≤ rn ∧ i = .int .i64 j ∧ Hid (KyRel W l v wr ∧ l = (t.R.take j).map (·.key))) (fun _ i _ => rn - (intOf i).toNat)
  case atStart => exact ⟨0, _, by omega, rfl, P11⟩
  case round =>
    clear P11
    obtain ⟨j, l, hj, rfl, HJ⟩ := hrel
    by_cases hlt : j < rn
    · obtain ⟨⟨xk, xv⟩, hx⟩ : ∃ x, t.R[j]? = some x := ⟨_, List.getElem?_eq_getElem (by rw [← HF.out.1]; exact hlt)⟩
      have HXJ : Hid ((t.R.take (j + 1)).map (·.key) = (t.R.take j).map (·.key) ++ [xk]) := by
        show _ = _
        rw [List.take_add_one, hx, List.map_append]
        rfl
      obtain ⟨g, o, rfl, lg, hcc⟩ := (HR.out.below HJ.out.1.below) j _ hx
      have d0 := hcc 0 _ rfl
      have d1 := hcc 1 _ rfl
      simp only [Nat.add_zero] at d0 d1
      have hj0 : (0 : Int) ≤ (j : Int) := by omega
      have hj1 : (j : Int) < (rn : Int) := by omega
      obtain ⟨W1, hW1⟩ : ∃ W1 : World, W1 = wr.alloc (.cells #[.string xk, .int .i64 xv] 53) := ⟨_, rfl⟩
      obtain ⟨b1, hb1⟩ : ∃ b1, b1 = wr.heap.size := ⟨_, rfl⟩
      have hbx1 : W1.heap[b1]? = some (.cells #[.string xk, .int .i64 xv] 53 (0, 0)) := by rw [hW1, hb1]; exact heap_alloc_new wr _
      have HW1 : Hid (wr.alloc (.cells #[.string xk, .int .i64 xv] 53) = W1 ∧ wr.heap.size = b1) := ⟨hW1.symm, hb1.symm⟩
      have H1 : Hid (KyRel W l u3 W1) := by
        show KyRel _ _ _ _
        rw [hW1]
        exact HJ.out.1.alloc _
      have e0 : W1.cell? ⟨b1, 0, none⟩ = some (.string xk) := by rw [cell_of_row _ _ _ _ _ _ hbx1]; rfl
      have HLEN : Hid (l.length ≤ 400000) := by
        have h1 : (t.R.take j).length ≤ j := by rw [List.length_take]; omega
        have h2 := HF.out.2.2
        have h3 := HF.out.1
        have h4 := HF.out.2.1
        show _ ≤ _
        rw [HJ.out.2]
        simp only [List.length_map]
        omega
      clear hx hcc lg hW1 hb1 hbx1
      go_upto_region 5 with fail
      rw [HW1.out.1, HW1.out.2]
      clear d0 d1
      go_wp2_with (at_builtin; refine wpList_append_own _ rfl _ _ 43 rfl W.heap.size 9 i0 (.string ⟨#[]⟩) 1 16 Tryz.underlying43 HI.out HZ.out HS.out HY.out rfl (by decide) _ _ _ rfl (H1.out.row.alloc _) ⟨W1.heap.size, 0, none⟩ 1 1 [.string xk] rfl rfl (cell_one_new _ _ _) (by simp [Value.oneCell']) (by have := HLEN.out; unfold maxLen; omega) (by have := HLEN.out; omega) (by have := H1.out.below.size; simp; omega) ?_)
      intro v1 w3 hown1 hgrow1 _
      have HN : Hid (KyRel W (l ++ [xk]) v1 w3 ∧ l ++ [xk] = (t.R.take (j + 1)).map (·.key)) := by
        refine ⟨H1.out.put _ hown1 hgrow1, ?_⟩
        rw [HXJ.out, ← HJ.out.2]
      clear hown1 hgrow1 e0
      go_wp2_with fail
      exact ⟨⟨j + 1, _, by omega, by simp, HN⟩, by simp [intOf]; omega⟩
    · obtain rfl : j = rn := by omega
      have z3 := HZ3.out wr HJ.out.1.below
      have P24 : Hid (KyRel W l u3 wr ∧ l = t.R.map (·.key) ++ (t.W.take 0).map (·.key)) := by
        refine ⟨HJ.out.1, ?_⟩
        have := HJ.out.2
        rw [List.take_of_length_le (by rw [HF.out.1]; exact Nat.le_refl _)] at this
        simpa using this
      clear hlt HJ
      go_wp2_with fail
      go_loopw [3, 24] (fun v i wr => ∃ (j : Nat) (l : List ByteArray), j ≤ wn ∧ i = .int .i64 j ∧ Hid (KyRel W l v wr ∧ l = t.R.map (·.key) ++ (t.W.take j).map (·.key))) (fun _ i _ => wn - (intOf i).toNat)
      case atStart => exact ⟨0, _, by omega, rfl, P24⟩
      case round =>
        clear P24
        obtain ⟨j, l, hj, rfl, HJ⟩ := hrel
        by_cases hlt : j < wn
        · obtain ⟨⟨xk, xv⟩, hx⟩ : ∃ x, t.W[j]? = some x := ⟨_, List.getElem?_eq_getElem (by rw [← HF.out.2.1]; exact hlt)⟩
          have HXJ : Hid ((t.W.take (j + 1)).map (·.key) = (t.W.take j).map (·.key) ++ [xk]) := by
            show _ = _
            rw [List.take_add_one, hx, List.map_append]
            rfl
          obtain ⟨g, o, rfl, lg, hcc⟩ := (HWW.out.below HJ.out.1.below) j _ hx
          have d0 := hcc 0 _ rfl
          have d1 := hcc 1 _ rfl
          simp only [Nat.add_zero] at d0 d1
          have hj0 : (0 : Int) ≤ (j : Int) := by omega
          have hj1 : (j : Int) < (wn : Int) := by omega
          obtain ⟨W1, hW1⟩ : ∃ W1 : World, W1 = wr.alloc (.cells #[.string xk, .string xv] 48) := ⟨_, rfl⟩
          obtain ⟨b1, hb1⟩ : ∃ b1, b1 = wr.heap.size := ⟨_, rfl⟩
          have hbx1 : W1.heap[b1]? = some (.cells #[.string xk, .string xv] 48 (0, 0)) := by rw [hW1, hb1]; exact heap_alloc_new wr _
          have HW1 : Hid (wr.alloc (.cells #[.string xk, .string xv] 48) = W1 ∧ wr.heap.size = b1) := ⟨hW1.symm, hb1.symm⟩
          have H1 : Hid (KyRel W l u3 W1) := by
            show KyRel _ _ _ _
            rw [hW1]
            exact HJ.out.1.alloc _
          have e0 : W1.cell? ⟨b1, 0, none⟩ = some (.string xk) := by rw [cell_of_row _ _ _ _ _ _ hbx1]; rfl
          have HLEN : Hid (l.length ≤ 400000) := by
            have h1 : (t.W.take j).length ≤ j := by rw [List.length_take]; omega
            have h2 := HF.out.2.2
            have h3 := HF.out.1
            have h4 := HF.out.2.1
            show _ ≤ _
            rw [HJ.out.2]
            simp only [List.length_append, List.length_map]
            omega
          clear hx hcc lg hW1 hb1 hbx1
          go_upto_region 10 with fail
          rw [HW1.out.1, HW1.out.2]
          clear d0 d1
          go_wp2_with (at_builtin; refine wpList_append_own _ rfl _ _ 43 rfl W.heap.size 9 i0 (.string ⟨#[]⟩) 1 16 Tryz.underlying43 HI.out HZ.out HS.out HY.out rfl (by decide) _ _ _ rfl (H1.out.row.alloc _) ⟨W1.heap.size, 0, none⟩ 1 1 [.string xk] rfl rfl (cell_one_new _ _ _) (by simp [Value.oneCell']) (by have := HLEN.out; unfold maxLen; omega) (by have := HLEN.out; omega) (by have := H1.out.below.size; simp; omega) ?_)
          intro v1 w3 hown1 hgrow1 _
          have HN : Hid (KyRel W (l ++ [xk]) v1 w3 ∧ l ++ [xk] = t.R.map (·.key) ++ (t.W.take (j + 1)).map (·.key)) := by
            refine ⟨H1.out.put _ hown1 hgrow1, ?_⟩
            rw [HXJ.out, ← List.append_assoc, ← HJ.out.2]
          clear hown1 hgrow1 e0
          go_wp2_with fail
          exact ⟨⟨j + 1, _, by omega, by simp, HN⟩, by simp [intOf]; omega⟩
        · obtain rfl : j = wn := by omega
          have hall : KyRel W (namedT t) u3 wr := by
            have := HJ.out.2
            rw [List.take_of_length_le (by rw [HF.out.2.1]; exact Nat.le_refl _)] at this
            unfold namedT
            rw [← this]
            exact HJ.out.1
          have hnl : (namedT t).length ≤ 200000 := by
            have := HF.out.2.2
            unfold namedT
            simp
            omega
          have HSO := Lib.hid (sort_str (l := namedT t) hall.row (by omega))
          have HB2 := Lib.hid hall.below
          have HLN : Hid ((namedT t).length ≤ 200000 ∧ (wr.ownsRow W.heap.size 9 1 u3 (namedT t).length ((namedT t).map Value.string))) := ⟨hnl, hall.row⟩
          clear hall hnl hlt HJ
          go_wp2_with fail
          refine HSO.out.mono ?_
          rintro e w2 ⟨rfl, hrow, hg⟩
          have hb2 : Below W.heap.size W w2 := HB2.out.trans ((Wrote.of_grown hg).below HB2.out.size fun g hg' => (row_block HLN.out.2 (by simpa using hg')).1)
          have hrow2 : w2.ownsRow W.heap.size 9 1 u3 (((namedT t).map (·.data.toList)).mergeSort fun x y => decide (x ≤ y)).length ((((namedT t).map (·.data.toList)).mergeSort fun x y => decide (x ≤ y)).map encStr) := by
            rw [enc_sorted, List.length_mergeSort, List.length_map]
            exact hrow
          have HCO := Lib.hid (compact_str hrow2 (by rw [List.length_mergeSort, List.length_map]; have := HLN.out.1; omega))
          have HB3 := Lib.hid hb2
          clear hrow hg hb2 hrow2 HSO
          go_wp2_with fail
          refine HCO.out.mono ?_
          rintro e w3 ⟨v', rfl, hrow3, hbl3⟩
          have hrow4 : w3.ownsRow W.heap.size 9 1 v' (keysT t).length ((keysT t).map Value.string) := by
            unfold keysT keysB toB
            rw [enc_back, List.length_map]
            exact hrow3
          obtain ⟨a, c, hv, hla⟩ := lies_row_str hrow4
          have HFI : Hid (KysL w t (.returned v') w3) := ⟨a, c, by rw [hv], hla, bl_trans HB.out (hbl3 W HB3.out)⟩
          clear hrow3 hbl3 hrow4 hv hla HCO
          go_wp2_with fail
          go_ret
          exact HFI.out
end Go.Proofs.YtaifmfnmgnmgbaaGreatDoor.Txn
