/- Merkle: a writer in memory: Text, Num, Bytes. -/
import Derived.Test.YtaifmfnmgnmgbaaGreatDoorMkWire
import Derived.Deep.RegionWith
import Derived.Deep.DeepCutAuto
import Derived.Deep.CutBlock
import Derived.Outline
namespace Go.Proofs.YtaifmfnmgnmgbaaGreatDoor.Merkle
open Go.RowKit Go.My

theorem bytes_news {w : World} {g : Nat} {s : ByteArray} (h : Lib.Bytes w g 0 s) : ∀ j u, (s.data.toList.map uv)[j]? = some u → w.cell? ((⟨g, 0, none⟩ : Addr).add j) = some u := by
  intro j u hj
  rw [List.getElem?_map] at hj
  obtain ⟨x, hx, rfl⟩ := Option.map_eq_some_iff.1 hj
  obtain ⟨h1, h2⟩ := List.getElem?_eq_some_iff.1 hx
  have := h j h1
  rw [Addr.add_lit, this]
  rw [← h2]
  rfl
theorem bytes_kept {w w' : World} {g : Nat} {s : ByteArray} {S : List Nat} (h : Lib.Bytes w g 0 s) (hg : g < w.heap.size) (hw : Wrote S w w') (hS : g ∉ S) : Lib.Bytes w' g 0 s := fun i hi => (hw.cell (p := ⟨g, _, none⟩) hg hS).trans (h i hi)
set_option maxRecDepth 100000 in
set_option maxHeartbeats 1600000 in
theorem text_any (base : Nat) (v : Value) (l : List UInt8) (g c : Nat) (s : ByteArray) (w : World) (h : w.ownsRow base 5 1 v l.length (l.map uv)) (hB : Lib.Bytes w g 0 s) (hg : g < w.heap.size) (hgv : v.ownBlock ≠ some g)
    (hs : s.size ≤ 65536) (hl : l.length ≤ 500000) (hb : base ≤ w.heap.size) :
    Calls Tryz.prog 66 #[v, .slice (some ⟨g, 0, none⟩) s.size c] w (CountLeft base v (l ++ txt s) w) := by
  obtain ⟨i0, hi0, hz0, hz1, hz2⟩ := info_parts byte_info
  have HI := Lib.hid hi0
  have HZ := Lib.hid hz0
  have HS := Lib.hid hz1
  have HY := Lib.hid hz2
  have HC := Lib.hid (count_any base v l (s.size : Int) w h (by omega) (by omega) (by omega) hb)
  have HBS := Lib.hid hB
  obtain ⟨n, hn⟩ : ∃ n, n = s.size := ⟨_, rfl⟩
  have HN := Lib.hid hn
  rw [← hn] at hs HC ⊢
  have HTX : Hid (txt s = be 4 (n : Int) ++ s.data.toList) := by rw [hn]; exact rfl
  have HDL : Hid (s.data.toList.length = n) := by rw [hn]; exact rfl
  clear h hi0 hz0 hz1 hz2 hB hn
  go_enter Tryz.func66, Tryz.ntmps66
  go_wp2_with fail
  refine HC.out.mono ?_
  rintro e w1 ⟨v1, rfl, hrow, hgr⟩
  have HR1 := Lib.hid hrow
  have HG1 := Lib.hid hgr
  have HB1 : Hid (Lib.Bytes w1 g 0 s) := bytes_kept HBS.out hg hgr.wrote (by simpa using hgv)
  have HSZ1 := Lib.hid hgr.wrote.size
  clear hrow hgr HC
  go_wp2_with (at_builtin; refine wpList_append_own_at _ rfl _ _ 26 rfl base 5 i0 (.int .u8 0) 1 1 Tryz.underlying26 HI.out HZ.out HS.out HY.out rfl (by decide) _ _ _ rfl HR1.out ⟨g, 0, none⟩ n c (s.data.toList.map uv) rfl ?c1 ?c2 ?c3 ?c4 ?c5 ?c6 ?_)
  case c1 => rw [List.length_map, HDL.out]; omega
  case c2 => exact bytes_news HB1.out
  case c3 => exact map_uv_one _
  case c4 => rw [List.length_append, be_len]; unfold maxLen; omega
  case c5 => rw [List.length_append, be_len]; omega
  case c6 => exact Nat.le_trans hb HSZ1.out
  intro v2 w3 hown1 hgrow1 _ hat
  have HE : Hid (CountLeft base v (l ++ txt s) w (.returned v2) w3) := by
    refine ⟨v2, rfl, ?_, HG1.out.trans (grow_of (Below.refl _ _) hgrow1 hat (Nat.le_refl _))⟩
    rw [HTX.out, ← List.append_assoc, List.map_append, List.length_append (bs := s.data.toList), HDL.out]
    simpa using hown1
  clear hown1 hgrow1 hat
  go_wp2_with fail
  go_ret
  exact HE.out

/-- a writer, with what was written -/
structure WrAt (w : World) (base wb : Nat) (v : Value) (l : List UInt8) : Prop where
  blk : w.heap[wb]? = some (.cells #[v, .nilIface] 74 (0, 0))
  row : w.ownsRow base 5 1 v l.length (l.map uv)
  bb : base ≤ wb
section
variable {w w' : World} {base wb : Nat} {v v' : Value} {l l' : List UInt8}
theorem WrAt.c0 (h : WrAt w base wb v l) : w.cell? ⟨wb, 0, none⟩ = some v := by rw [cell_of_row _ _ _ _ _ _ h.blk]; rfl
theorem WrAt.c1 (h : WrAt w base wb v l) : w.cell? ⟨wb, 1, none⟩ = some .nilIface := by rw [cell_of_row _ _ _ _ _ _ h.blk]; rfl
theorem WrAt.f0 (h : WrAt w base wb v l) : w.frozen? ⟨wb, 0, none⟩ = false := by unfold World.frozen?; rw [h.blk]; rfl
theorem WrAt.lt (h : WrAt w base wb v l) : wb < w.heap.size := lt_of_heap h.blk
theorem WrAt.ne (h : WrAt w base wb v l) : v.ownBlock ≠ some wb := fun e => by
  obtain ⟨_, cur, hc⟩ := row_block h.row e
  rw [h.blk] at hc
  cases hc
theorem WrAt.below (h : WrAt w base wb v l) (hb : Below w.heap.size w w') : WrAt w' base wb v l := ⟨(hb.block _ h.lt).trans h.blk, row_below h.row hb, h.bb⟩
theorem WrAt.set (h : WrAt w base wb v l) {w1 : World} (hw : Wrote v.ownBlock.toList w w1) (hr : w1.ownsRow base 5 1 v' l'.length (l'.map uv)) :
    WrAt (w1.setCell ⟨wb, 0, none⟩ v') base wb v' l' ∧ Wrote (wb :: v.ownBlock.toList) w (w1.setCell ⟨wb, 0, none⟩ v') := by
  have hb1 : w1.heap[wb]? = _ := hw.heap h.blk (by simpa using h.ne)
  refine ⟨⟨?_, ?_, h.bb⟩, ?_⟩
  · obtain ⟨hlt, hgt⟩ := Array.getElem?_eq_some_iff.1 hb1
    simp [World.setCell, Array.getElem?_modify, hb1]
  · refine ownsRow_setCell_other hr (a := ⟨wb, 0, none⟩) (fun e => ?_) v'
    obtain ⟨_, cur, hc⟩ := row_block hr e
    rw [hb1] at hc
    cases hc
  · exact (hw.mono (by simp; intro a ha; exact .inr ha)).setCell (.inl (by simp)) v'
end
def WrLeft (base wb : Nat) (v0 : Value) (l : List UInt8) (w : World) (e : Ending) (w' : World) : Prop := e = .returned (.tuple #[]) ∧ ∃ v, WrAt w' base wb v l ∧ Wrote (wb :: v0.ownBlock.toList) w w'
set_option maxRecDepth 100000 in
set_option maxHeartbeats 1600000 in
theorem wtext_any (base wb : Nat) (v : Value) (l : List UInt8) (g c : Nat) (s : ByteArray) (w : World) (h : WrAt w base wb v l) (hB : Lib.Bytes w g 0 s) (hg : g < w.heap.size) (hgv : v.ownBlock ≠ some g)
    (hs : s.size ≤ 65536) (hl : l.length ≤ 500000) :
    Calls Tryz.prog 28 #[.pointer (some ⟨wb, 0, none⟩), .slice (some ⟨g, 0, none⟩) s.size c] w (WrLeft base wb v (l ++ txt s) w) := by
  obtain ⟨w0, hw0⟩ : ∃ W : World, W = w.alloc (.cells #[.slice (some ⟨g, 0, none⟩) s.size c] 26) := ⟨_, rfl⟩
  have hb0 : Below w.heap.size w w0 := by rw [hw0]; exact (Below.refl _ _).alloc (Nat.le_refl _) _
  have hbx : w0.cell? ⟨w.heap.size, 0, none⟩ = some (.slice (some ⟨g, 0, none⟩) s.size c) := by rw [hw0, cell_of_row _ _ _ _ _ _ (heap_alloc_new w _)]; rfl
  have H0 := Lib.hid (h.below hb0)
  have HB0 := Lib.hid hb0
  have HT := Lib.hid (text_any base v l g c s w0 H0.out.row (fun i hi => (hb0.cell (p := ⟨g, _, none⟩) hg).trans (hB i hi)) (Nat.lt_of_lt_of_le hg hb0.size) hgv hs hl (Nat.le_trans h.bb (Nat.le_of_lt H0.out.lt)))
  have c0 := H0.out.c0
  have c1 := H0.out.c1
  obtain ⟨n, hn⟩ : ∃ n, n = s.size := ⟨_, rfl⟩
  rw [← hn] at hs HT hbx hw0 ⊢
  have hsi : (n : Int) ≤ 65536 := by omega
  obtain ⟨bx, hbx2⟩ : ∃ k, k = w.heap.size := ⟨_, rfl⟩
  have HW : Hid (w.alloc (.cells #[.slice (some ⟨g, 0, none⟩) n c] 26) = w0 ∧ w.heap.size = bx) := ⟨hw0.symm, hbx2.symm⟩
  rw [← hbx2] at hbx
  clear h hB hn hb0 hw0 hbx2
  go_enter Tryz.func28, Tryz.ntmps28
  go_upto_region 1 with fail
  rw [HW.out.1, HW.out.2]
  go_wp2_with (first | (go_at_call 66; refine HT.out.mono ?_; rintro e w1 ⟨v1, rfl, hrow, hgr⟩; obtain ⟨a1, cp1, rfl⟩ := row_slice hrow; have HSET := Lib.hid (H0.out.set hgr.wrote hrow); have d0 := (hgr.wrote.cell (p := ⟨wb, 0, none⟩) H0.out.lt (by simpa using H0.out.ne)).trans c0; have f0 : w1.frozen? ⟨wb, 0, none⟩ = false := (by unfold World.frozen?; rw [hgr.wrote.heap H0.out.blk (by simpa using H0.out.ne)]; rfl); clear hrow hgr) | go_in)
  go_end0
  go_wp2_with fail
  go_end0
  rw [← List.length_append]
  exact ⟨rfl, _, HSET.out.1, (Wrote.of_below HB0.out).trans HSET.out.2⟩
set_option maxRecDepth 100000 in
set_option maxHeartbeats 1600000 in
theorem wnum_any (base wb : Nat) (v : Value) (l : List UInt8) (z : Int) (w : World) (h : WrAt w base wb v l) (hl : l.length ≤ 500000) :
    Calls Tryz.prog 27 #[.pointer (some ⟨wb, 0, none⟩), .int .i64 z] w (WrLeft base wb v (l ++ be 8 z) w) := by
  obtain ⟨w0, hw0⟩ : ∃ W : World, W = w.alloc (.cells #[.int .i64 z] 2) := ⟨_, rfl⟩
  have hb0 : Below w.heap.size w w0 := by rw [hw0]; exact (Below.refl _ _).alloc (Nat.le_refl _) _
  have hbx : w0.cell? ⟨w.heap.size, 0, none⟩ = some (.int .i64 z) := by rw [hw0, cell_of_row _ _ _ _ _ _ (heap_alloc_new w _)]; rfl
  have H0 := Lib.hid (h.below hb0)
  have HB0 := Lib.hid hb0
  have HT := Lib.hid (number_any base v l z w0 H0.out.row (by omega) (Nat.le_trans h.bb (Nat.le_of_lt H0.out.lt)))
  have c0 := H0.out.c0
  have c1 := H0.out.c1
  obtain ⟨bx, hbx2⟩ : ∃ k, k = w.heap.size := ⟨_, rfl⟩
  have HW : Hid (w.alloc (.cells #[.int .i64 z] 2) = w0 ∧ w.heap.size = bx) := ⟨hw0.symm, hbx2.symm⟩
  rw [← hbx2] at hbx
  clear h hb0 hw0 hbx2
  go_enter Tryz.func27, Tryz.ntmps27
  go_upto_region 1 with fail
  rw [HW.out.1, HW.out.2]
  go_wp2_with (first | (go_at_call 63; refine HT.out.mono ?_; rintro e w1 ⟨v1, rfl, hrow, hgr⟩; obtain ⟨a1, cp1, rfl⟩ := row_slice hrow; have HSET := Lib.hid (H0.out.set hgr.wrote hrow); have d0 := (hgr.wrote.cell (p := ⟨wb, 0, none⟩) H0.out.lt (by simpa using H0.out.ne)).trans c0; have f0 : w1.frozen? ⟨wb, 0, none⟩ = false := (by unfold World.frozen?; rw [hgr.wrote.heap H0.out.blk (by simpa using H0.out.ne)]; rfl); clear hrow hgr) | go_in)
  go_end0
  go_wp2_with fail
  go_end0
  rw [← List.length_append]
  exact ⟨rfl, _, HSET.out.1, (Wrote.of_below HB0.out).trans HSET.out.2⟩
theorem bytes_row {w : World} {base g n cap : Nat} {l : List UInt8} (h : w.ownsRow base 5 1 (.slice (some ⟨g, 0, none⟩) n cap) n (l.map uv)) : Lib.Bytes w g 0 (ofL l) := fun i hi => by
  have hx : (l.map uv)[i]? = some (uv l[i]) := by
    rw [List.getElem?_map, List.getElem?_eq_getElem hi]
    rfl
  have := h.cells (g := g) rfl i _ hx
  rw [Addr.add_lit] at this
  exact this
def BytesLeft (base : Nat) (l : List UInt8) (w : World) (e : Ending) (w' : World) : Prop := ∃ g cap, e = .returned (.tuple #[.slice (some ⟨g, 0, none⟩) l.length cap, .nilIface]) ∧ base ≤ g ∧ g < w'.heap.size ∧ Lib.Bytes w' g 0 (ofL l) ∧ Below w.heap.size w w'
set_option maxRecDepth 100000 in
set_option maxHeartbeats 1600000 in
theorem wbytes_any (base wb : Nat) (v : Value) (l : List UInt8) (w : World) (h : WrAt w base wb v l) (h0 : 0 < l.length) (hl : l.length ≤ 500000) :
    Calls Tryz.prog 29 #[.pointer (some ⟨wb, 0, none⟩)] w (BytesLeft base l w) := by
  obtain ⟨i0, hi0, hz0, hz1, hz2⟩ := info_parts byte_info
  have HI := Lib.hid hi0
  have HZ := Lib.hid hz0
  have HS := Lib.hid hz1
  have HY := Lib.hid hz2
  have HBB : Hid (base ≤ w.heap.size) := Nat.le_trans h.bb (Nat.le_of_lt h.lt)
  obtain ⟨a, cp, rfl⟩ := row_slice h.row
  obtain ⟨g, rfl, hbg⟩ := row_pos h.row h0
  have H := Lib.hid h
  have hgl := row_lt h.row g rfl
  have HG := Lib.hid hgl
  have c0 := h.c0
  have c1 := h.c1
  obtain ⟨n, hn⟩ : ∃ n, n = l.length := ⟨_, rfl⟩
  have HN := Lib.hid hn
  rw [← hn] at c0
  have HN0 : Hid (0 < n) := by rw [hn]; exact h0
  have HNL : Hid (n ≤ 500000) := by rw [hn]; exact hl
  have HOE : Hid (∀ W : World, w.heap.size ≤ W.heap.size → (W.alloc (.cells #[] 5)).ownsRow w.heap.size 5 1 (.slice (some ⟨W.heap.size, 0, none⟩) 0 0) 0 []) := fun W hW => ⟨by simp, .inr ⟨W.heap.size, 0, #[], rfl, hW, heap_alloc_new W _, Nat.le_refl _, by unfold maxLen; omega, by simp, by simp⟩⟩
  have hs := Lib.run_eql_slice_nil (P := Tryz.prog) w 26 5 (some ⟨g, 0, none⟩) n cp 0 0 Tryz.underlying26
  clear h hi0 hz0 hz1 hz2 hn hgl h0 hl
  go_enter Tryz.func29, Tryz.ntmps29
  go_wp2_with (first | (at_builtin; refine wpList_append_own_at _ rfl _ _ 26 rfl w.heap.size 5 i0 (.int .u8 0) 1 1 Tryz.underlying26 HI.out HZ.out HS.out HY.out rfl (by decide) _ _ _ rfl (HOE.out w (Nat.le_refl _)) ⟨g, 0, none⟩ n cp (l.map uv) rfl ?c1 ?c2 ?c3 ?c4 ?c5 ?c6 ?_) | go_in)
  case c1 => rw [List.length_map, ← HN.out]; omega
  case c2 =>
    intro j u hj
    rw [Addr.add_lit, (((Below.refl _ w).alloc (Nat.le_refl _) (.cells #[] 5)).cell (p := ⟨g, _, none⟩) HG.out)]
    have := H.out.row.cells (g := g) rfl j u hj
    rwa [Addr.add_lit] at this
  case c3 => exact map_uv_one _
  case c4 => have := HNL.out; unfold maxLen; omega
  case c5 => have := HNL.out; omega
  case c6 => simp
  intro v1 w3 hown1 hgrow1 _ _
  have HE : Hid (BytesLeft base l w (.returned (.tuple #[v1, .nilIface])) w3) := by
    obtain ⟨a1, cp1, rfl⟩ := row_slice hown1
    obtain ⟨g1, rfl, hg1⟩ := row_pos hown1 HN0.out
    have hlt := row_lt hown1 g1 rfl
    have hB := bytes_row hown1
    refine ⟨g1, cp1, by rw [HN.out], Nat.le_trans HBB.out hg1.1, hlt, hB, ?_⟩
    exact Wrote.below (S := []) (((Wrote.refl [] w).alloc _).grown hgrow1 (fun k hk => .inr (by cases hk; exact Nat.le_refl _))) (Nat.le_refl _) (by simp)
  clear hown1 hgrow1
  go_wp2_with fail
  go_ret2
  exact HE.out
end Go.Proofs.YtaifmfnmgnmgbaaGreatDoor.Merkle
