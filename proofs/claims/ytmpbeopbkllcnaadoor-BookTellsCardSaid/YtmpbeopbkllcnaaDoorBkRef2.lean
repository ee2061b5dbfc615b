/- A book: the document's Text and Digest. -/
import Derived.Test.YtmpbeopbkllcnaaDoorBkRef
namespace Go.Proofs.YtmpbeopbkllcnaaDoor.Book
open Go.RowKit Go.My

set_option maxRecDepth 100000 in
theorem rtext_no {w : World} {base d : Nat} {x : Option Nat} {v : Value} {ts : List ByteArray} (h : RbAt w base d x v ts) (i : Int) (hi : i < 0 ∨ (ts.length : Int) ≤ i) :
    Calls Tryd.prog 25 #[.pointer (some ⟨d, 0, none⟩), .int .i64 i] w fun e w' => e = .returned (.tuple #[.slice none 0 0, .int .i64 1]) ∧ Below w.heap.size w w' := by
  have c0 := h.c0
  have ld := lt_of_heap h.blk
  obtain ⟨vs, hr, _⟩ := h.row
  obtain ⟨a, cap, rfl, -⟩ := row_form hr
  have HB : Hid (Below w.heap.size w w) := Below.refl _ _
  clear h hr
  rcases hi with hi | hi
  · go_enter Tryd.func25, Tryd.ntmps25
    go_wp2_with fail
    go_ret2
    exact ⟨rfl, HB.out⟩
  · by_cases h0 : i < 0
    · clear hi
      go_enter Tryd.func25, Tryd.ntmps25
      go_wp2_with fail
      go_ret2
      exact ⟨rfl, HB.out⟩
    · go_enter Tryd.func25, Tryd.ntmps25
      go_wp2_with fail
      go_ret2
      exact ⟨rfl, HB.out⟩
def RtextLeft (w : World) (s : ByteArray) (e : Ending) (w' : World) : Prop :=
  ∃ g cap : Nat, e = .returned (.tuple #[.slice (some ⟨g, 0, none⟩) s.size cap, .int .i64 0]) ∧ g < w'.heap.size ∧ Lib.Bytes w' g 0 s ∧ Below w.heap.size w w'
set_option maxRecDepth 100000 in
theorem rtext_at {w : World} {base d : Nat} {x : Option Nat} {v : Value} {ts : List ByteArray} (h : RbAt w base d x v ts) (i : Nat) (s : ByteArray) (hi : ts[i]? = some s) (hs : s.size ≤ 1000000) :
    Calls Tryd.prog 25 #[.pointer (some ⟨d, 0, none⟩), .int .i64 (i : Int)] w (RtextLeft w s) := by
  have hil : i < ts.length := (List.getElem?_eq_some_iff.1 hi).1
  have h1 := h.below ((Below.refl _ w).alloc (Nat.le_refl _) (.cells #[] 5))
  have hv : ∃ a cap, v = .slice a ts.length cap := by
    obtain ⟨vs, hr, _⟩ := h.row
    obtain ⟨a, cap, rfl, -⟩ := row_form hr
    exact ⟨a, cap, rfl⟩
  obtain ⟨a, cap, rfl⟩ := hv
  have c0 := h.c0
  have ld := lt_of_heap h.blk
  obtain ⟨g, a2, c2, rfl, lg, k0, hb⟩ := h.at hi
  have HB := Lib.hid (hb.src.below ((Below.refl _ w).alloc (Nat.le_refl _) (.cells #[] 5)))
  have HS := Lib.hid hs
  have hi0 : (0 : Int) ≤ (i : Int) := by omega
  have hi1 : (i : Int) < (ts.length : Int) := by omega
  obtain ⟨n, hn⟩ : ∃ n, n = ts.length := ⟨_, rfl⟩
  rw [← hn] at c0 hi1
  clear h h1 hi hs hil hb hn
  go_enter Tryd.func25, Tryd.ntmps25
  go_wp2_with (at_builtin; refine wpList_append_b rfl _ _ rfl w.heap.size w.heap.size rfl (heap_alloc_new w _) (Nat.le_refl _) a2 c2 s rfl HB.out HS.out (by simp) ?_)
  intro g3 cap3 w3 hown hgrow
  have HX : Hid (RtextLeft w s (.returned (.tuple #[.slice (some ⟨g3, 0, none⟩) s.size cap3, .int .i64 0])) w3) := by
    refine ⟨g3, cap3, rfl, (hown.lt g3 rfl).2, row_bytes hown, ?_⟩
    have hw := ((Wrote.refl [w.heap.size] w).alloc (.cells #[] 5)).trans (Wrote.of_grown (row := some w.heap.size) hgrow)
    exact hw.below (Nat.le_refl _) (by simp)
  clear hown hgrow
  go_wp2_with fail
  go_ret2
  exact HX.out

theorem str_eqB (x y : ByteArray) : (x.toList == y.toList) = decide (x = y) := by
  rw [Lib.toList_data, Lib.toList_data]
  by_cases h : x = y
  · subst h; simp
  · rw [decide_eq_false h]
    simp only [beq_eq_false_iff_ne]
    exact fun e => h (Go.WideShapes.bytes_inj e)
set_option maxRecDepth 100000 in
theorem rdig_long {w : World} {base d : Nat} {x : Option Nat} {v : Value} {ts : List ByteArray} (_ : RbAt w base d x v ts) (sa : Option Addr) (sl sc : Nat) (hs : 65536 < sl) :
    Calls Tryd.prog 23 #[.pointer (some ⟨d, 0, none⟩), .slice sa sl sc] w fun e w' => e = .returned (.tuple #[.int .i64 (-1), .int .i64 2]) ∧ Below w.heap.size w w' := by
  have hs1 : (65536 : Int) < (sl : Int) := by omega
  have HB : Hid (Below w.heap.size w w) := Below.refl _ _
  clear hs
  go_enter Tryd.func23, Tryd.ntmps23
  go_wp2_with fail
  go_ret2
  exact ⟨rfl, HB.out⟩
theorem slb_info : (Tryd.prog.info? 56).map (fun i => (i.zero, i.size, i.bytes)) = some (some (.slice none 0 0), 1, 24) := by kernel_rfl
theorem rb_push {w w2 w3 : World} {base d : Nat} {x : Option Nat} {v v3 : Value} {ts : List ByteArray} {s : ByteArray} {vs : List Value} {g1 c1 : Nat} {o : Obj} (h : RbAt w base d x v ts) (hr : w.ownsRow base 56 1 v ts.length vs)
    (hvs : ∀ (i : Nat) s, ts[i]? = some s → ∃ a c, vs[i]? = some (.slice a s.size c) ∧ RBytes w x a c s) (hb : Below w.heap.size w w2) (hown1 : w2.ownsRow w.heap.size 5 1 (.slice (some ⟨g1, 0, none⟩) s.size c1) s.size (bvals s))
    (hx : ∀ y, x = some y → y < w.heap.size) (hgrow : (w2.alloc o).grownBy w3 v.ownBlock) (hown3 : w3.ownsRow base 56 1 v3 (ts.length + 1) (vs ++ [.slice (some ⟨g1, 0, none⟩) s.size c1])) :
    w3.heap[d]? = some (.cells #[v] 55 (0, 0)) ∧ RbAt (w3.setCell ⟨d, 0, none⟩ v3) base d x v3 (ts ++ [s]) ∧ Wrote (d :: v.ownBlock.toList) w (w3.setCell ⟨d, 0, none⟩ v3) := by
  have hal : Below w.heap.size w (w2.alloc o) := hb.alloc hb.size o
  have hw : Wrote v.ownBlock.toList w w3 := (Wrote.of_below hal).trans (Wrote.of_grown hgrow)
  have hrt : ∀ k ∈ v.ownBlock.toList, ∃ cur, w.heap[k]? = some (.cells cur 56 (0, 0)) := fun k hk => (row_block hr (by simpa using hk)).2
  have hd : w3.heap[d]? = some (.cells #[v] 55 (0, 0)) := hw.heap h.blk (fun hm => by
    obtain ⟨cur, hc⟩ := hrt _ hm
    rw [h.blk] at hc
    cases hc)
  have hset : Wrote [d] w3 (w3.setCell ⟨d, 0, none⟩ v3) := (Wrote.refl [d] w3).setCell (.inl (List.mem_singleton.2 rfl)) _
  have hall : Wrote (d :: v.ownBlock.toList) w (w3.setCell ⟨d, 0, none⟩ v3) := (hw.mono fun k hk => List.mem_cons_of_mem d hk).setCell (p := ⟨d, 0, none⟩) (.inl (List.mem_cons_self)) _
  refine ⟨hd, ⟨heap_setCell_same _ d 0 _ _ _ hd, ⟨vs ++ [.slice (some ⟨g1, 0, none⟩) s.size c1], ?_, ?_⟩, h.bd⟩, hall⟩
  · rw [List.length_append]
    refine row_wrote hown3 hset fun g hg hm => ?_
    obtain rfl : g = d := by simpa using hm
    obtain ⟨_, cur, hc⟩ := row_block hown3 hg
    rw [hd] at hc
    cases hc
  · intro i t ht
    rw [List.getElem?_append] at ht
    have hlen : vs.length = ts.length := by have := hr.1; omega
    split at ht
    · rename_i hi
      obtain ⟨a, c, h1, h2⟩ := hvs i t ht
      refine ⟨a, c, by rw [List.getElem?_append_left (by omega)]; exact h1, h2.wrote hall fun k hk => .inr fun cur hc => ?_⟩
      rcases List.mem_cons.1 hk with rfl | hk
      · rw [h.blk] at hc; cases hc
      · obtain ⟨cur', hc'⟩ := hrt k hk
        rw [hc'] at hc
        cases hc
    · rename_i hi
      have h0 : i - ts.length = 0 := by
        have := (List.getElem?_eq_some_iff.1 ht).1
        simp at this
        omega
      obtain rfl : i = ts.length := by omega
      simp at ht
      subst ht
      obtain ⟨hge, cur, hc⟩ := row_block hown1 (g := g1) rfl
      have hR : RBytes w2 x (some ⟨g1, 0, none⟩) c1 s := ⟨g1, rfl, fun e => by
        have := hx g1 e.symm
        omega, ⟨cur, hc⟩, row_bytes hown1⟩
      have hg1 := lt_of_heap hc
      refine ⟨some ⟨g1, 0, none⟩, c1, by rw [List.getElem?_append_right (by omega), hlen]; simp, ?_⟩
      have hw2 : Wrote (d :: v.ownBlock.toList) w2 (w3.setCell ⟨d, 0, none⟩ v3) := ((((Wrote.refl _ w2).alloc o).trans (Wrote.of_grown hgrow)).mono fun k hk => List.mem_cons_of_mem d hk).setCell (p := ⟨d, 0, none⟩) (.inl (List.mem_cons_self)) _
      refine hR.wrote hw2 fun k hk => .inr fun cur hc => ?_
      rcases List.mem_cons.1 hk with rfl | hk
      · rw [hb.block _ (lt_of_heap h.blk), h.blk] at hc; cases hc
      · obtain ⟨cur', hc'⟩ := hrt k hk
        rw [hb.block _ (lt_of_heap hc'), hc'] at hc
        cases hc
def RdigLeft (w : World) (base d : Nat) (x : Option Nat) (v : Value) (ts : List ByteArray) (s : ByteArray) (e : Ending) (w' : World) : Prop :=
  e = .returned (.tuple #[.int .i64 (placeOf ts s : Nat), .int .i64 0]) ∧ ∃ v', RbAt w' base d x v' (asked ts s) ∧ Wrote (d :: v.ownBlock.toList) w w'
set_option maxRecDepth 100000 in
set_option maxHeartbeats 3200000 in
theorem rdig_any {w : World} {base d : Nat} {x : Option Nat} {v : Value} {ts : List ByteArray} (h : RbAt w base d x v ts) (hn : ts.Nodup) (hl : ts.length ≤ 1000) (sa : Option Addr) (s : ByteArray) (sc : Nat) (hs : s.size ≤ 65536)
    (hsrc : BSrc w sa sc s) (hx : ∀ y, x = some y → y < w.heap.size) (hbase : base ≤ w.heap.size) :
    Calls Tryd.prog 23 #[.pointer (some ⟨d, 0, none⟩), .slice sa s.size sc] w (RdigLeft w base d x v ts s) := by
  have H := Lib.hid h
  have HND := Lib.hid hn
  have HSRC := Lib.hid hsrc
  have HX := Lib.hid hx
  have HB := Lib.hid hbase
  have hv : ∃ a cap, v = .slice a ts.length cap := by
    obtain ⟨vs, hr, _⟩ := h.row
    obtain ⟨a, cap, rfl, -⟩ := row_form hr
    exact ⟨a, cap, rfl⟩
  obtain ⟨a, cap, rfl⟩ := hv
  obtain ⟨n, hn2⟩ : ∃ n, n = ts.length := ⟨_, rfl⟩
  obtain ⟨sl, hsl⟩ : ∃ n, n = s.size := ⟨_, rfl⟩
  have HN := Lib.hid hn2
  have HSL := Lib.hid hsl
  have hsl1 : (sl : Int) ≤ 65536 := by omega
  have hnl : (n : Int) ≤ 1000 := by omega
  have P0 : Hid (s ∉ ts.take 0) := by show ¬ _; simp
  have PB : Hid (Below w.heap.size w w) := Below.refl _ _
  rw [← hsl]
  clear h hn hsrc hx hbase hl hs hn2 hsl
  go_enter Tryd.func23, Tryd.ntmps23
  go_wp2_with fail
  go_loopw [6] (fun i wr => ∃ j : Nat, j ≤ n ∧ i = .int .i64 j ∧ Hid (s ∉ ts.take j) ∧ Hid (Below w.heap.size w wr)) (fun i _ => n - (intOf i).toNat)
  case atStart => exact ⟨0, by omega, rfl, P0, PB⟩
  case round =>
    clear P0 PB
    obtain ⟨j, hj, rfl, HNO, HW⟩ := hrel
    have HR := Lib.hid (H.out.below HW.out)
    have c0 := HR.out.c0
    have ld := lt_of_heap HR.out.blk
    rw [← HN.out] at c0
    have hcvs : ∀ q, (convert 56 9 (.slice sa sl sc)).run Tryd.prog (wr.drewN q) = .ok (.string s) (wr.drewN q) := fun q => by
      rw [HSL.out]
      exact conv_of (HSRC.out.below HW.out).bytes (fun _ _ _ _ _ => rfl)
    by_cases hlt : j < n
    · obtain ⟨t, ht⟩ : ∃ x, ts[j]? = some x := ⟨_, List.getElem?_eq_getElem (by rw [← HN.out]; exact hlt)⟩
      obtain ⟨g, a2, c2, rfl, lg, k0, hb⟩ := HR.out.at ht
      have hcvt : ∀ q, (convert 56 9 (.slice a2 t.size c2)).run Tryd.prog (wr.drewN q) = .ok (.string t) (wr.drewN q) := fun q => conv_of hb.src.bytes (fun _ _ _ _ _ => rfl)
      obtain ⟨tl, htl⟩ : ∃ z, z = t.size := ⟨_, rfl⟩
      rw [← htl] at k0 hcvt
      have hj0 : (0 : Int) ≤ (j : Int) := by omega
      have hj1 : (j : Int) < (n : Int) := by omega
      have HWD : Hid (∀ q, Below w.heap.size w (wr.drewN q)) := fun q => ⟨HW.out.os, HW.out.tape, HW.out.output, HW.out.size, HW.out.block⟩
      by_cases hts : t = s
      · have HLEFT : Hid (∀ q, RdigLeft w base d x (.slice (some ⟨g, 0, none⟩) ts.length cap) ts s (.returned (.tuple #[.int .i64 (j : Int), .int .i64 0])) (wr.drewN q)) := by
          intro q
          have hp : aget (placed ts) s = some j := placed_some HND.out (by rw [← hts]; exact ht)
          refine ⟨by simp [placeOf, hp], .slice (some ⟨g, 0, none⟩) ts.length cap, ?_, Wrote.of_below (HWD.out q)⟩
          have : asked ts s = ts := by simp [asked, hp]
          rw [this]
          exact H.out.below (HWD.out q)
        have hq : (t.toList == s.toList) = true := by rw [str_eqB]; simpa using hts
        clear ht hb htl hts
        go_wp2_with fail
        go_quiet (fail)
        go_wp2_with fail
        go_ret2
        exact HLEFT.out _
      · have hq : (t.toList == s.toList) = false := by rw [str_eqB]; simpa using hts
        have HNX : Hid (s ∉ ts.take (j + 1)) := by
          show ¬ _
          rw [List.take_add_one, ht]
          simp
          exact ⟨HNO.out, fun e => hts e.symm⟩
        clear ht hb htl hts
        go_wp2_with fail
        go_quiet (fail)
        go_wp2_with fail
        exact ⟨⟨j + 1, by omega, by simp, HNX, HWD.out _⟩, by simp [intOf]; omega⟩
    · obtain rfl : j = n := by omega
      have HNI : Hid (s ∉ ts) := by
        have := HNO.out
        rwa [List.take_of_length_le (by rw [← HN.out]; exact Nat.le_refl _)] at this
      obtain ⟨z, hz⟩ : ∃ z : Int, z = j := ⟨_, rfl⟩
      have HZ := Lib.hid hz
      have hz7 : z < 65536 := by omega
      clear hz
      have HAS : Hid (asked ts s = ts ++ [s] ∧ placeOf ts s = ts.length) := by
        have := placed_none HNI.out
        show _ ∧ _
        simp [asked, placeOf, this]
      obtain ⟨i0, hi0, hz0, hz1, hz2⟩ := info_parts slb_info
      have HI := Lib.hid hi0
      have HZ0 := Lib.hid hz0
      have HZ1 := Lib.hid hz1
      have HZ2 := Lib.hid hz2
      have HSB : Hid (∀ W, Below wr.heap.size wr W → BSrc W sa sc s) := fun W hW => (HSRC.out.below HW.out).below hW
      obtain ⟨vs, hrow, hvs⟩ := HR.out.row
      have HROW := Lib.hid hrow
      have HVS := Lib.hid hvs
      have fz : wr.frozen? ⟨d, 0, none⟩ = false := by simp [World.frozen?, HR.out.blk]
      have HDC : Hid (∀ W, Below wr.heap.size wr W → W.cell? ⟨d, 0, none⟩ = some (.slice a j cap) ∧ W.frozen? ⟨d, 0, none⟩ = false) := fun W hW => ⟨(hW.cell (p := ⟨d, 0, none⟩) ld).trans c0, by
        have := (hW.block _ ld).trans HR.out.blk
        simp [World.frozen?, this]⟩
      have D0 := (HDC.out wr.drew ⟨rfl, rfl, rfl, Nat.le_refl _, fun _ _ => rfl⟩).1
      have D1 : ∀ o, ((wr.alloc o).drew).cell? ⟨d, 0, none⟩ = some (.slice a j cap) := fun o => (HDC.out _ ((Below.refl _ wr).alloc (Nat.le_refl _) o).drew).1
      clear hi0 hz0 hz1 hz2 hrow hvs hcvs
      go_wp2_with (rw [← HZ.out])
      go_region_law (first
        | (refine step_append_b (by rfl) _ _ (by rfl) wr.heap.size wr.heap.size (by rfl) (heap_alloc_new wr _) (Nat.le_refl _) sa sc s (by rw [← HSL.out]; rfl) (HSB.out _ ((Below.refl _ wr).alloc (Nat.le_refl _) _).drew) (by rw [← HSL.out]; omega) (by simp) ?_; intro g1 c1 w2 hown1 hgrow1; have HO1 := Lib.hid hown1; have HB2 : Hid (Below wr.heap.size wr w2) := (((Wrote.refl [wr.heap.size] wr).alloc (.cells #[] 5)).drew.trans (Wrote.of_grown (row := some wr.heap.size) hgrow1)).below (Nat.le_refl _) (by simp); have E0 := (HDC.out w2 HB2.out).1; have E1 : (∀ o, (w2.alloc o).cell? ⟨d, 0, none⟩ = some (.slice a j cap)) := (fun o => (HDC.out _ (HB2.out.alloc HB2.out.size o)).1); clear hown1 hgrow1)
        | (refine step_append_lies _ (by rfl) _ _ _ (by rfl) base 56 i0 _ 1 24 Tryd.underlying49 HI.out HZ0.out HZ1.out HZ2.out rfl (by omega) (.slice a j cap) j vs (by rfl) (by rw [HN.out]; exact (row_below HROW.out HB2.out).alloc _)
            ⟨w2.heap.size, 0, none⟩ 1 1 [.slice (some ⟨g1, 0, none⟩) s.size c1] (by rfl) (by rfl) (World.news_of_block (cs := #[.slice (some ⟨g1, 0, none⟩) s.size c1]) (t := 56) (fr := (0, 0)) (heap_alloc_new w2 _)) (by simp [Value.oneCell'])
            (by omega) (by unfold maxLen; omega) (by omega) (by have := HW.out.size; have := HB2.out.size; have := HB.out; simp; omega) (w2.heap.size + 1) (by simp) ?_; intro g3 c3 w3 hown3 hgrow3 _ _; rw [HN.out] at hown3 hgrow3; obtain ⟨hd3, hr3, hw3⟩ := rb_push HR.out HROW.out HVS.out HB2.out HO1.out (fun y e => Nat.lt_of_lt_of_le (HX.out y e) HW.out.size) hgrow3 hown3; have HD3 := Lib.hid hd3; have HR3 := Lib.hid hr3; have HW3 := Lib.hid hw3; have f0 : w3.cell? ⟨d, 0, none⟩ = some (.slice a j cap) := (by rw [cell_of_row _ _ _ _ _ _ HD3.out, HN.out]; rfl); have f1 : w3.frozen? ⟨d, 0, none⟩ = false := (by simp [World.frozen?, HD3.out]); clear hown3 hgrow3 hd3 hr3 hw3))
      all_goals
        have HE : Hid (RdigLeft w base d x (.slice a ts.length cap) ts s (.returned (.tuple #[.int .i64 (ts.length : Nat), .int .i64 0])) (w3.setCell ⟨d, 0, none⟩ (.slice (some ⟨g3, 0, none⟩) (ts.length + 1) c3))) := by
          refine ⟨by rw [HAS.out.2], _, by rw [HAS.out.1]; exact HR3.out, ?_⟩
          exact (Wrote.of_below HW.out).trans HW3.out
        have e := HN.out
        subst e
        clear HW3 HR3
        go_wp2_with fail
        go_ret2
        exact HE.out
end Go.Proofs.YtmpbeopbkllcnaaDoor.Book
