/- A store: all entries of a range. -/
import Derived.Test.YtaifmfnmgnmgbaaGreatDoorWith
namespace Go.Proofs.YtaifmfnmgnmgbaaGreatDoor
open Go.RowKit Go.My Go.Shelf
attribute [local go_sem] Oper.semAt_some
theorem three_cells (w : World) (e : Ent) (t : TypeId) (j : Nat) (u : Value) (h : (entL e)[j]? = some u) : (w.alloc (.cells #[.string e.key, .string e.value, .int .i64 e.ver] t)).cell? ((⟨w.heap.size, 0, none⟩ : Addr).add j) = some u := by
  rw [Addr.add_lit, Nat.zero_add, cell_of_row _ _ _ _ _ _ (heap_alloc_new w _)]
  simpa [entL] using h
set_option maxRecDepth 100000 in
set_option maxHeartbeats 3200000 in
theorem range_12 (p : Nat) (a : Option Addr) (cap : Nat) (L : List Ent) (fr tk : ByteArray) (w : World) (hs : StoreAt w p a cap L) (hl : L.length ≤ 500) :
    Calls Tryz.prog 21 #[.pointer (some ⟨p, 0, none⟩), .string fr, .string tk] w (JoinLeft w (L.filter (inR fr tk))) := by
  refine (callsIn_wide (n := 4)).1 ?_
  obtain ⟨i0, hi, hz0, hz1, hz2⟩ := info_parts ent_info
  have HS := Lib.hid hs
  have HSND := Lib.hid (rows_snd hs.up fr tk)
  have HLN : Hid ((rows L fr tk).length ≤ 500) := by
    show _ ≤ _
    rw [rows_len]; exact Nat.le_trans (List.length_filter_le _ _) hl
  have HL := Lib.hid hl
  obtain ⟨W0, hW0⟩ : ∃ W0, W0 = w.alloc (.cells #[.slice none 0 0] 38) := ⟨_, rfl⟩
  have HB0 : Hid (Below w.heap.size w W0 ∧ Boxed W0 w.heap.size 38 (.slice none 0 0) ∧ W0.heap.size = w.heap.size + 1) := by
    show _ ∧ _ ∧ _
    rw [hW0]; exact ⟨(Below.refl _ w).alloc (Nat.le_refl _) _, Boxed.new w 38 _, by simp⟩
  have HWI := Lib.hid (within_24 (4 - 1) p fr tk W0)
  rw [HB0.out.2.2] at HWI
  clear hs hl
  refine callsIn_of_wp_marks Tryz.func21 rfl trivial ?_ rfl
  simp only [Tryz.ntmps21, List.size_toArray, List.length_cons, List.length_nil, Nat.reduceAdd, Nat.reduceSub, Array.replicate_succ, Array.replicate_zero, List.push_toArray, List.append_toArray, List.nil_append, List.cons_append]
  gi_wp2
  rw [← hW0]
  refine ⟨trivial, HWI.out.mono ?_⟩
  rintro e W1 ⟨rfl, hb1, hsz, hbx⟩
  gi_wp2
  rw [← HB0.out.2.2] at hb1
  have hB1 : Below w.heap.size w W1 := HB0.out.1.trans (hb1.mono HB0.out.1.size)
  have hbO : Boxed W1 w.heap.size 38 (.slice none 0 0) := HB0.out.2.1.kept (grown_of_below hb1) (by simp)
  have hsz1 : W1.heap.size = w.heap.size + 4 := by rw [hsz]
  refine wpIn_rangeFunc_ownH rfl (by decide) (gf := 92) (lb := #[.pointer (some ⟨w.heap.size + 1, 0, none⟩), .pointer (some ⟨w.heap.size + 1 + 1, 0, none⟩), .pointer (some ⟨w.heap.size + 1 + 2, 0, none⟩)]) rfl trivial (enters_of Tryz.func92 (by kernel_rfl) rfl)
    (within_stops (4 - 1) (by decide) (w.heap.size + 1) p a cap L fr tk w HS.out HL.out W1 hB1 hbx) keepsW_t (keepsW_b (by omega) (by omega)) (Below.refl _ _) (fun _ => rfl)
    (fun pre W => (∃ v, Boxed W w.heap.size 38 v ∧ W.ownsRow w.heap.size 42 3 v pre.length (pre.flatMap fun x => entL x.2) ∧ True) ∧ Below w.heap.size w W ∧ BoxesAt W (w.heap.size + 1) p fr tk)
    (fun _ _ _ => False)
    ?hI
    (fun _ _ _ _ _ hs _ _ => hs)
    ⟨⟨_, hbO, World.ownsRow_nil _ _ _ _, trivial⟩, hB1, hbx⟩
    (fun x a' W => ∃ Bx, w.heap.size < Bx ∧ W.heap[Bx]? = some (.cells #[.string x.2.key, .string x.2.value, .int .i64 x.2.ver] 42 (0, 0)) ∧ a' = { tmps := #[.pointer (some ⟨p, 0, none⟩), .string fr, .string tk, undef, undef, undef, .slice none 0 0, .pointer (some ⟨w.heap.size, 0, none⟩), undef, .pointer (some ⟨Bx, 0, none⟩), .pointer (some ⟨p, 0, none⟩), .string fr, .string tk, .func (.func 92) #[] #[.pointer (some ⟨w.heap.size + 1, 0, none⟩), .pointer (some ⟨w.heap.size + 1 + 1, 0, none⟩), .pointer (some ⟨w.heap.size + 1 + 2, 0, none⟩)], .int .i64 (x.1 : Int), .agg #[.string x.2.key, .string x.2.value, .int .i64 x.2.ver], undef, undef, undef, undef, undef], defers := [] })
    ?hAx ?assign ?body ?done ?stop
  case hI =>
    rintro s X Y row ⟨hv, hb, hq⟩ hg hr
    refine ⟨holdsRow_own w.heap.size w.heap.size 38 42 3 (fun pre : List (Nat × Ent) => pre.length) (fun pre => pre.flatMap fun x => entL x.2) (fun _ _ => True) s X Y row hv hg fun r e => (hr r e).2, hb.grown hg hb.size (fun j e => by have := (hr j e).1; omega), hq.grown hg fun r e => by have := (hr r e).1; exact ⟨by omega, by omega, by omega⟩⟩
  case hAx =>
    rintro x a' s X Y row ⟨Bx, h1, h2, h3⟩ hg hr
    refine ⟨Bx, h1, (hg.block Bx (lt_of_heap h2) fun e => ?_).trans h2, h3⟩
    obtain ⟨o, ho, hc⟩ := (hr Bx e.symm).2
    rw [h2] at ho; cases ho; cases hc
  case assign =>
    intro l pre x W K hi hK
    gi_wp2
    have hB : Below W.heap.size W (W.alloc (.cells #[.string x.2.key, .string x.2.value, .int .i64 x.2.ver] 42)) := (Below.refl _ W).alloc (Nat.le_refl _) _
    have hz : w.heap.size ≤ W.heap.size := hi.2.1.size
    have hq := hi.2.2.2.2.lt
    refine hK _ _ ((KeepsOthers.alloc _ _).from _) ⟨hB.mono hz, fun q => q.grown (grown_of_below hB) fun _ e => by cases e⟩ ⟨holdsRow_own w.heap.size w.heap.size 38 42 3 (fun pre : List (Nat × Ent) => pre.length) (fun pre => pre.flatMap fun x => entL x.2) (fun _ _ => True) pre W _ none hi.1 (grown_of_below hB) (fun _ e => by cases e), hi.2.1.trans (hB.mono hz), hi.2.2.grown (grown_of_below hB) fun _ e => by cases e⟩ ⟨W.heap.size, by omega, heap_alloc_new W _, rfl⟩
  case body =>
    rintro l pre x a' W hl ⟨r, hr⟩ ⟨⟨v, hv, hrow, _⟩, hB, hq⟩ ⟨Bx, hx1, hx2, rfl⟩ hlt
    have hc := hv.cell
    have x0 : W.cell? ⟨Bx, 0, none⟩ = some (.string x.2.key) := by rw [cell_of_row _ _ _ _ _ _ hx2]; rfl
    have x1 : W.cell? ⟨Bx, 1, none⟩ = some (.string x.2.value) := by rw [cell_of_row _ _ _ _ _ _ hx2]; rfl
    have x2 : W.cell? ⟨Bx, 2, none⟩ = some (.int .i64 x.2.ver) := by rw [cell_of_row _ _ _ _ _ _ hx2]; rfl
    have lx := lt_of_heap hx2
    have hpl : pre.length < 500 := Nat.lt_of_lt_of_le hlt HLN.out
    have hsz : w.heap.size ≤ W.heap.size := hB.size
    gi_wp2_with (gi_at_builtin; refine wpListIn_append_own _ rfl _ _ 38 rfl w.heap.size 42 i0 (entA ent0) 3 40 Tryz.underlying38 hi hz0 hz1 hz2 rfl (by decide) _ _ _ rfl (hrow.alloc _) ⟨W.heap.size, 0, none⟩ 1 1 (entL x.2) rfl rfl (three_cells _ _ _) (by intro u hu; simp only [entL, List.mem_cons, List.not_mem_nil, or_false] at hu; rcases hu with rfl | rfl | rfl <;> rfl) (by unfold maxLen; omega) (by omega) (by simp; omega) ?_; intro v' w1 hown' hgrow _; obtain ⟨g', cap', rfl⟩ := ownsRow_succ hown'; obtain ⟨hv1, hv2, hr2, hk2, hb2⟩ := hv.appended (by decide) hrow hB.size (Nat.le_refl _) hown' hgrow; have hc1 := hv1.cell; have hf1 := hv1.frozen)
    have hq2 : BoxesAt (w1.setCell ⟨w.heap.size, 0, none⟩ (.slice (some ⟨g', 0, none⟩) (pre.length + 1) cap')) (w.heap.size + 1) p fr tk := by
      have h1 := hq.grown (World.grownBy_alloc W (.cells #[.string x.2.key, .string x.2.value, .int .i64 x.2.ver] 42) none) fun _ e => by cases e
      have h2 : BoxesAt w1 (w.heap.size + 1) p fr tk := ⟨h1.1.kept hgrow (h1.1.not_row (by decide) (hrow.alloc _)), h1.2.1.kept hgrow (h1.2.1.not_row (by decide) (hrow.alloc _)), h1.2.2.kept hgrow (h1.2.2.not_row (by decide) (hrow.alloc _))⟩
      exact h2.grown (grownBy_setCell' w1 _ _) fun r e => by cases e; exact ⟨by omega, by omega, by omega⟩
    exact ⟨hk2.from _, ⟨hb2, fun _ => hq2⟩, ⟨_, hv2, by rw [List.length_append, List.flatMap_append]; simpa using hr2, trivial⟩, hB.trans hb2, hq2⟩
  case done =>
    rintro D ys W hD rfl ⟨⟨v, hv, hrow, _⟩, hB, hq⟩ hK
    have hc := hv.cell
    gi_wp2
    refine ⟨by simp, .inl ⟨_, _, rfl, run_takeDeferred hK, ?_⟩⟩
    have hrow2 : W.ownsRow w.heap.size 42 3 v (L.filter (inR fr tk)).length ((L.filter (inR fr tk)).flatMap entL) := by
      rw [← HSND.out, List.length_map, List.flatMap_map]
      exact hrow
    exact ⟨_, results_tmp rfl _ _ _, v, rfl, ownsRow_putObj hrow2 _ hK rfl, hB.trans (belowK_b (w := w) (Nat.le_refl _) W D _ _ (by omega) hK rfl rfl)⟩
  case stop =>
    rintro D c pre W _ _ h _
    exact h.elim
end Go.Proofs.YtaifmfnmgnmgbaaGreatDoor
