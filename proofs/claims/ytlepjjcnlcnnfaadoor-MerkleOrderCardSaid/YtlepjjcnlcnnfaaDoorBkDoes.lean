/- Book: Text and Digest. -/
import Derived.Test.YtlepjjcnlcnnfaaDoorBkBook
import Derived.Deep.RegionHeld3
import Derived.Deep.RegionLaw
import Derived.Deep.AppendLies
namespace Go.Proofs.YtlepjjcnlcnnfaaDoor.Book
open Go.RowKit Go.My

variable {w w' : World} {base b m : Nat} {v : Value} {ts : List ByteArray}
theorem bytesWorld_below (w : World) (s : ByteArray) : Below w.heap.size w (Lib.bytesWorld w 5 s) :=
  ⟨rfl, rfl, rfl, by rw [Lib.bytesWorld_size]; omega, fun k hk => Lib.bytesWorld_at_old w 5 s k hk⟩

/-- What a call leaves that writes to the book: its blocks, and new ones. -/
structure Turned (w : World) (base b m : Nat) (v v' : Value) (w' : World) : Prop where
  below : Below base w w'
  wrote : Wrote (b :: m :: v.ownBlock.toList) w w'
  row : ∀ g, v'.ownBlock = some g → v.ownBlock = some g ∨ w.heap.size ≤ g
def DigAdd (w : World) (base b m : Nat) (v : Value) (ts : List ByteArray) (s : ByteArray) (e : Ending) (w' : World) : Prop :=
  ∃ v', e = .returned (.tuple #[.int .i64 (ts.length : Nat), .nilIface]) ∧ BookAt w' base b m v' (ts ++ [s]) ∧ Turned w base b m v v' w'

set_option maxRecDepth 100000 in
theorem dig_long (h : BookAt w base b m v ts) (sa : Option Addr) (sl sc : Nat) (hs : 65536 < sl) : Calls Tryd.prog 44 #[.pointer (some ⟨b, 0, none⟩), .slice sa sl sc] w
    fun e w' => e = .returned (.tuple #[.int .i64 (-1), wrapV (ts.length : Nat) 2]) ∧ Below w.heap.size w w' := by
  have HW := Lib.hid (fun W (hb : Below w.heap.size w W) => wrong_any (h.below hb) 2 rfl)
  clear h
  go_enter Tryd.func44, Tryd.ntmps44
  go_wp2_with (go_at_call 57; refine (HW.out _ (Below.refl _ _)).mono ?_; rintro e w' ⟨rfl, hb⟩)
  go_ret2
  exact ⟨rfl, hb⟩

set_option maxRecDepth 100000 in
theorem dig_old (h : BookAt w base b m v ts) (sa : Option Addr) (s : ByteArray) (sc i : Nat) (hs : s.size ≤ 65536)
    (hcv : ∀ n, (convert 91 9 (.slice sa s.size sc)).run Tryd.prog (w.drewN n) = .ok (.string s) (w.drewN n)) (hi : aget (placed ts) s = some i) :
    Calls Tryd.prog 44 #[.pointer (some ⟨b, 0, none⟩), .slice sa s.size sc] w fun e w' => e = .returned (.tuple #[.int .i64 (i : Nat), .nilIface]) ∧ Below w.heap.size w w' := by
  have c1 := h.c1
  have hlk : ∀ n, (Instr.lookup 46 (.map (some m)) (.string s) true).run Tryd.prog (w.drewN n) = .ok (.tuple #[.int .i64 (i : Int), .bool true]) (w.drewN n) := fun n => by
    have := (h.map.drewN n).lookup kStr Tryd.underlying46 (zero3 (w.drewN n)) s
    rw [hi] at this
    exact this
  clear h hi
  generalize s.size = sl at *
  go_enter Tryd.func44, Tryd.ntmps44
  go_wp2_with fail
  go_quiet (fail)
  go_wp2_with fail
  go_ret2
  exact ⟨rfl, ⟨rfl, rfl, rfl, by simp, fun k hk => rfl⟩⟩

theorem str_info : (Tryd.prog.info? 9).map (fun i => (i.zero, i.size, i.bytes)) = some (some (.string ByteArray.empty), 1, 16) := by kernel_rfl
theorem placed_snoc (ts : List ByteArray) (s : ByteArray) (h : aget (placed ts) s = none) : aput (placed ts) s ts.length = placed (ts ++ [s]) := by
  rw [keys_aput_none _ h]
  unfold placed
  rw [List.zipIdx_append]
  simp
theorem row_ne {w : World} {v : Value} {n : Nat} {xs : List Value} (h : w.ownsRow base 9 1 v n xs) {b m : Nat} {cs : Array Value} (hb : w.heap[b]? = some (.cells cs 49 (0, 0))) {l : List (ByteArray × Nat)} (hm : MapAt w m bs bn l) :
    ∀ g, v.ownBlock = some g → g ≠ b ∧ g ≠ m := by
  intro g hg
  rcases h.2 with ⟨rfl, _⟩ | ⟨g', cap, cur, rfl, _, hc, _⟩
  · cases hg
  · have e : g' = g := by simpa [Value.ownBlock] using hg
    subst e
    refine ⟨fun e => ?_, fun e => hm.ne_cells hc e.symm⟩
    subst e
    rw [hb] at hc
    cases hc

theorem dig_end {w1 w2 : World} {s : ByteArray} {o : Obj} {v1 : Value} (h : BookAt w base b m v ts) (hn : aget (placed ts) s = none) (hbw : base ≤ w.heap.size) (HT : Wrote [m] w w1) (hm : MapAt w1 m bs bn (aput (placed ts) s ts.length))
    (hg : ((w1.alloc o).drew).grownBy w2 v.ownBlock) (hown : w2.ownsRow base 9 1 v1 (ts.length + 1) (ts.map bs ++ [.string s]))
    (hat : ∀ g, v1.ownBlock = some g → v.ownBlock = some g ∨ g = w1.heap.size + 1) :
    BookAt (w2.setCell ⟨b, 0, none⟩ v1) base b m v1 (ts ++ [s]) ∧ Turned w base b m v v1 (w2.setCell ⟨b, 0, none⟩ v1) := by
  have hnb := row_ne h.row h.blk h.map
  have hb1 : w1.heap[b]? = some (.cells #[v, .map (some m)] 49 (0, 0)) := HT.heap h.blk (by have := h.ne; simp; exact fun e => this e.symm)
  have lb := lt_of_heap hb1
  have hs : ((w1.alloc o).drew).heap.size = w1.heap.size + 1 := by simp
  have hb2 : w2.heap[b]? = some (.cells #[v, .map (some m)] 49 (0, 0)) := (hg.block b (by omega) (fun e => (hnb b e.symm).1 rfl)).trans ((Below.heap_alloc w1 o b lb).trans hb1)
  have hm2 : w2.heap[m]? = w1.heap[m]? := (hg.block m (by have := hm.lt; omega) (fun e => (hnb m e.symm).2 rfl)).trans (Below.heap_alloc w1 o m hm.lt)
  have hm3 := hm.keep (w' := w2) hm2
  have hnb1 := row_ne hown hb2 hm3
  have hm4 := hm3.keep (w' := w2.setCell ⟨b, 0, none⟩ v1) (Below.heap_setCell w2 ⟨b, 0, none⟩ v1 m h.ne)
  refine ⟨⟨?_, ?_, ?_, h.bb, h.bm, hnb1⟩, ?_⟩
  · obtain ⟨hlt, hgt⟩ := Array.getElem?_eq_some_iff.1 hb2
    simp [World.setCell, Array.getElem?_modify, hb2]
  · rwa [placed_snoc ts s hn] at hm4
  · have := ownsRow_setCell_other hown (a := ⟨b, 0, none⟩) (fun e => (hnb1 b e).1 rfl) v1
    simpa [bs] using this
  · have t : Wrote (b :: m :: v.ownBlock.toList) w (w2.setCell ⟨b, 0, none⟩ v1) :=
      ((((HT.mono (T := b :: m :: v.ownBlock.toList) (fun k hk => by simp at hk; simp [hk])).alloc o).drew).grown hg (fun k hk => .inl (by rw [hk]; simp))).setCell (.inl (by simp)) v1
    refine ⟨t.below hbw (fun k hk => ?_), t, fun g hg => (hat g hg).imp_right (fun e => by have := HT.size; omega)⟩
    simp only [List.mem_cons] at hk
    rcases hk with rfl | rfl | hk
    · exact h.bb
    · exact h.bm
    · have hv : v.ownBlock = some k := by simpa using hk
      exact (h.row.lt k hv).1

set_option maxRecDepth 100000 in
set_option maxHeartbeats 1600000 in
theorem dig_new (h : BookAt w base b m v ts) (sa : Option Addr) (s : ByteArray) (sc : Nat) (hs : s.size ≤ 65536) (hl : ts.length < 65536) (hbw : base ≤ w.heap.size)
    (hcv : ∀ W, Wrote (m :: v.ownBlock.toList) w W → (convert 91 9 (.slice sa s.size sc)).run Tryd.prog W = .ok (.string s) W) (hi : aget (placed ts) s = none) :
    Calls Tryd.prog 44 #[.pointer (some ⟨b, 0, none⟩), .slice sa s.size sc] w (DigAdd w base b m v ts s) := by
  obtain ⟨i0, hi0, hz0, hz1, hz2⟩ := info_parts str_info
  have HI := Lib.hid hi0
  have HZ := Lib.hid hz0
  have HS := Lib.hid hz1
  have HY := Lib.hid hz2
  clear hi0 hz0 hz1 hz2
  have H := Lib.hid h
  have HCV := Lib.hid hcv
  have HN := Lib.hid hi
  have hnb := row_ne h.row h.blk h.map
  obtain ⟨a, cap, rfl, _⟩ := row_open h.row
  have HNB := Lib.hid hnb
  clear hnb
  have c0 := h.c0
  have c1 := h.c1
  have hlk : ∀ n, (Instr.lookup 46 (.map (some m)) (.string s) true).run Tryd.prog (w.drewN n) = .ok (.tuple #[.int .i64 0, .bool false]) (w.drewN n) := fun n => by
    have := (h.map.drewN n).lookup kStr Tryd.underlying46 (zero3 (w.drewN n)) s
    rw [hi] at this
    exact this
  have hcv0 : ∀ n, (convert 91 9 (.slice sa s.size sc)).run Tryd.prog (w.drewN n) = .ok (.string s) (w.drewN n) := fun n => hcv _ ((Wrote.refl _ _).drewN n)
  clear h hi hcv
  obtain ⟨sl, hsl⟩ : ∃ sl, sl = s.size := ⟨_, rfl⟩
  obtain ⟨n, hn⟩ : ∃ n, n = ts.length := ⟨_, rfl⟩
  have HNL := Lib.hid hn
  rw [← hsl] at HCV hcv0 hs ⊢
  rw [← hn] at H HNB HCV c0 hl
  have HH := H
  unfold DigAdd
  clear hsl hn
  go_enter Tryd.func44, Tryd.ntmps44
  go_wp2_with fail
  go_quiet (fail)
  go_wp2_with fail
  have hcv1 := HCV.out (w.drewN nq).drew ((Wrote.refl _ _).drewN nq).drew
  refine wp_region_tail 11 (by kernel_rfl) (by kernel_rfl) ?_
  simp only [List.take_succ_cons, List.take_zero, List.drop_succ_cons, List.drop_zero]
  repeat still_step
  refine wpStill_nil ?_
  refine wpList_update _ rfl _ _ _ 46 rfl kStr Tryd.underlying46 m (placed ts) (H.out.map.drewN nq).drew rfl s n rfl rfl ?_
  intro w1 hm1 ht1
  have HT : Hid (Wrote [m] w w1) := ((Wrote.refl [m] w).drewN nq).drew.trans ht1
  have HT2 : Hid (Wrote (m :: (Value.slice a n cap).ownBlock.toList) w w1) := HT.out.mono (fun k hk => by simp at hk; simp [hk])
  have HM1 := Lib.hid hm1
  clear hm1 ht1 hcv1 hcv0 hlk
  have hcv2 := HCV.out w1 HT2.out
  have hb1 : w1.heap[b]? = _ := HT.out.heap H.out.blk (by have := H.out.ne; simp; exact fun e => this e.symm)
  have HB1 := Lib.hid hb1
  have HR1 : Hid (w1.ownsRow base 9 1 (.slice a n cap) n (ts.map bs)) := by
    have hr := H.out.row
    rw [← HNL.out] at hr
    exact hr.kept (row := some m) ⟨HT.out.os, HT.out.tape, HT.out.output, HT.out.size, fun k hk hne => HT.out.block k hk (by simpa using hne)⟩ (by rcases hx : (Value.slice a n cap).ownBlock with _ | g0; exact .inl rfl; exact .inr (fun e => (HNB.out g0 hx).2 (by simpa using e)))
  have d0 : w1.cell? ⟨b, 0, none⟩ = some (.slice a n cap) := by rw [cell_of_row w1 b 0 _ _ _ hb1]; rfl
  have lb := World.block_lt_of_cell? w1 _ d0
  have f0 : w1.frozen? ⟨b, 0, none⟩ = false := by unfold World.frozen?; rw [hb1]; rfl
  clear c0 c1 hb1
  go_wp2_with fail
  have hcv3 := HCV.out w1.drew HT2.out.drew
  have D0 : Hid (∀ o, ((w1.alloc o).drew).cell? ⟨b, 0, none⟩ = some (.slice a n cap)) := fun o => (World.cell?_of_block (w := w1) (w' := (w1.alloc o).drew) (a := ⟨b, 0, none⟩) (Below.heap_alloc w1 o b lb)).trans d0
  have F0 : Hid (∀ o, ((w1.alloc o).drew).frozen? ⟨b, 0, none⟩ = false) := fun o => (World.frozen?_of_block (w := w1) (w' := (w1.alloc o).drew) (a := ⟨b, 0, none⟩) (Below.heap_alloc w1 o b lb)).trans f0
  go_region_law
    ((refine step_append_lies _ (by rfl) _ _ _ (by rfl) base 9 i0 _ 1 16 Tryd.underlying47 HI.out HZ.out HS.out HY.out rfl (by omega) (.slice a n cap) n (ts.map bs) (by rfl) ((HR1.out.alloc _).drew)
        ⟨w1.heap.size, 0, none⟩ 1 1 [.string s] (by rfl) (by rfl) (World.news_of_block (cs := #[.string s]) (t := 9) (fr := (0, 0)) (heap_alloc_new w1 _)) (by simp [Value.oneCell'])
        (by omega) (by unfold maxLen; omega) (by omega) (by have := HT.out.size; simp; omega) (w1.heap.size + 1) (by simp) ?_; intro gg capp w2 hown1 hgrow hat hlt; have e0 := (hgrow.cell_far ⟨b, 0, none⟩ (by simp; omega) (fun e => (HNB.out _ e.symm).1 rfl)).trans (D0.out _); have f2 := (hgrow.frozen_far ⟨b, 0, none⟩ (by simp; omega) (fun e => (HNB.out _ e.symm).1 rfl)).trans (F0.out _); have HO := Lib.hid hown1; have HG := Lib.hid hgrow; have HA := Lib.hid hat; clear hown1 hgrow hat))
  all_goals go_wp2_with fail
  all_goals
    go_ret2
    have hx := HNL.out
    subst hx
    obtain ⟨q1, q2⟩ := dig_end HH.out HN.out hbw HT.out HM1.out HG.out HO.out (fun g hg => by
      have e : gg = g := by simpa [Value.ownBlock] using hg
      exact e ▸ HA.out)
    exact ⟨_, by simp, q1, q2⟩
end Go.Proofs.YtlepjjcnlcnnfaaDoor.Book
