/- A store: a range is taken away. -/
import Derived.Test.YtopmbphdkohbmaaRange
import Derived.Test.YtopmbphdkohbmaaConc
import Derived.Sort.CutIn
import Derived.Test.YtopmbphdkohbmaaGenq
import Derived.Deep.RegionHeld3
namespace Go.Proofs.Ytopmbphdkohbmaa
open Go.RowKit Go.My Go.Shelf
attribute [local go_sem] Oper.semAt_some
def dropAt (L : List Ent) (fr tk : ByteArray) : Nat := if (L.filter (inR fr tk)).length = 0 then 0 else posOf L fr
theorem drop_eq {L : List Ent} (hu : Up L) (fr tk : ByteArray) : dropAt L fr tk + (L.filter (inR fr tk)).length ≤ L.length ∧ L.take (dropAt L fr tk) ++ L.drop (dropAt L fr tk + (L.filter (inR fr tk)).length) = L.filter fun e => !inR fr tk e := by
  obtain ⟨A, B, C, hL, hB, hC, hA, _, _⟩ := three hu fr tk
  unfold dropAt
  rw [hB, hC, hA]
  by_cases h : B.length = 0
  · obtain rfl : B = [] := List.length_eq_zero_iff.1 h
    rw [if_pos h]
    refine ⟨by simp, ?_⟩
    rw [hL]
    simp
  · rw [if_neg h]
    constructor
    · rw [hL]; simp
    · rw [hL, List.take_left' rfl, ← List.append_assoc, List.drop_left' (by simp)]
def firstOf (pre : List (Nat × Ent)) : Nat := (pre.head?.map Prod.fst).getD 0
theorem firstOf_rows (L : List Ent) (fr tk : ByteArray) : firstOf (rows L fr tk) = dropAt L fr tk := by
  unfold rows dropAt
  generalize (L.filter (inR fr tk)).length = n
  cases n with
  | zero => rfl
  | succ n =>
    unfold firstOf upto
    rw [List.range_succ_eq_map, List.map_cons, if_neg (by omega)]
    simp [rowAt]
theorem src_take {w : World} {a : Option Addr} {cap : Nat} {L : List Ent} (h : SrcAt w a cap L) (i : Nat) : SrcAt w a cap (L.take i) :=
  ⟨fun j x hj => h.lies j x (by
    rw [List.getElem?_take] at hj
    split at hj
    · exact hj
    · cases hj), h.nil, h.some, Nat.le_trans (by rw [List.length_take]; omega) h.room, h.max⟩
theorem src_drop {w : World} {g o cap : Nat} {L : List Ent} (h : SrcAt w (some ⟨g, o, none⟩) cap L) {i : Nat} (hi : i ≤ L.length) : SrcAt w (if cap = i then some ⟨g, o, none⟩ else some ⟨g, o + i * 3, none⟩) (cap - i) (L.drop i) := by
  have hr := h.room
  split
  · rename_i h1
    have : L.drop i = [] := List.drop_eq_nil_of_le (by omega)
    rw [this]
    exact ⟨fun i x hi => by simp at hi, (fun h => by cases h), (fun b h => by cases h; rfl), by simp, by have := h.max; omega⟩
  · exact ⟨fun j x hj => by
      rw [List.getElem?_drop] at hj
      obtain ⟨g', o', h1, h2, h3⟩ := h.lies (i + j) x hj
      obtain ⟨rfl, rfl⟩ : g = g' ∧ o = o' := by simpa using h1
      refine ⟨g, o + i * 3, rfl, h2, fun t v ht => ?_⟩
      have := h3 t v ht
      rw [Nat.add_mul] at this
      rw [show o + i * 3 + j * 3 + t = o + (i * 3 + j * 3) + t by omega]
      exact this, (fun h => by cases h), (fun b h => by cases h; rfl), by rw [List.length_drop]; omega, by have := h.max; omega⟩
theorem src_put {w : World} {a : Option Addr} {cap : Nat} {L : List Ent} (h : SrcAt w a cap L) {D : Nat} {x : Option (List Deferred)} (hd : w.heap[D]? = some (.deferred x)) (o : Obj) : SrcAt (w.putObj D o) a cap L :=
  ⟨fun i e hi => by
    obtain ⟨g, o', h1, h2, h3⟩ := h.lies i e hi
    exact ⟨g, o', h1, by simpa using h2, fun j v hj => cell_kept (h3 j v hj) (grownBy_putObj' _ D o) (fun r e => by cases e; exact ⟨_, hd, rfl⟩)⟩, h.nil, h.some, h.room, h.max⟩
def DropLeft (w : World) (p : Nat) (R : List Ent) (e : Ending) (w' : World) : Prop := (∃ v, e = .returned v) ∧ Wrote [p] w w' ∧ ∃ a cap, w'.heap[p]? = some (.cells #[.slice a R.length cap] 52 (0, 0)) ∧ SrcAt w' a cap R
set_option maxRecDepth 100000 in
set_option maxHeartbeats 3200000 in
theorem drop_18 (p : Nat) (a : Option Addr) (cap : Nat) (L : List Ent) (fr tk : ByteArray) (w : World) (hs : StoreAt w p a cap L) (hl : L.length ≤ 500) :
    Calls Try.prog 18 #[.pointer (some ⟨p, 0, none⟩), .string fr, .string tk] w (DropLeft w p (L.filter fun e => !inR fr tk e)) := by
  refine (callsIn_wide (n := 4)).1 ?_
  have HS := Lib.hid hs
  have HDE := Lib.hid (drop_eq hs.up fr tk)
  have HLN : Hid ((rows L fr tk).length ≤ 500) := by
    show _ ≤ _
    rw [rows_len]; exact Nat.le_trans (List.length_filter_le _ _) hl
  have HL := Lib.hid hl
  obtain ⟨W0, hW0⟩ : ∃ W0, W0 = (w.alloc (.cells #[.int .i64 0] 3)).alloc (.cells #[.int .i64 0] 3) := ⟨_, rfl⟩
  have HB0 : Hid (Below w.heap.size w W0 ∧ (Boxed W0 w.heap.size 3 (.int .i64 0) ∧ Boxed W0 (w.heap.size + 1) 3 (.int .i64 0)) ∧ W0.heap.size = w.heap.size + 2) := by
    show _ ∧ _ ∧ _
    rw [hW0]
    have h := Boxed.new (w.alloc (.cells #[.int .i64 0] 3)) 3 (.int .i64 0)
    rw [World.size_alloc] at h
    exact ⟨((Below.refl _ w).alloc (Nat.le_refl _) _).alloc (by simp) _, ⟨(Boxed.new w 3 _).alloc _, h⟩, by simp⟩
  have HWI := Lib.hid (within_24 (4 - 1) p fr tk W0)
  rw [HB0.out.2.2] at HWI
  have lp := lt_of_heap hs.cell
  clear hs hl
  refine callsIn_of_wp_marks Try.func18 rfl trivial ?_ rfl
  simp only [Try.ntmps18, List.size_toArray, List.length_cons, List.length_nil, Nat.reduceAdd, Nat.reduceSub, Array.replicate_succ, Array.replicate_zero, List.push_toArray, List.append_toArray, List.nil_append, List.cons_append]
  gi_wp2
  rw [← hW0]
  clear hW0
  refine ⟨trivial, HWI.out.mono ?_⟩
  rintro e W1 ⟨rfl, hb1, hsz, hbx⟩
  gi_wp2
  rw [← HB0.out.2.2] at hb1
  have hB1 : Below w.heap.size w W1 := HB0.out.1.trans (hb1.mono HB0.out.1.size)
  have hbF : Boxed W1 w.heap.size 3 (.int .i64 0) := HB0.out.2.1.1.kept (grown_of_below hb1) (by simp)
  have hbM : Boxed W1 (w.heap.size + 1) 3 (.int .i64 0) := HB0.out.2.1.2.kept (grown_of_below hb1) (by simp)
  have hsz1 : W1.heap.size = w.heap.size + 5 := by rw [hsz]
  refine wpIn_rangeFunc_ownG rfl (by decide) (gf := 31) (lb := #[.pointer (some ⟨w.heap.size + 2, 0, none⟩), .pointer (some ⟨w.heap.size + 2 + 1, 0, none⟩), .pointer (some ⟨w.heap.size + 2 + 2, 0, none⟩)]) rfl trivial (enters_of Try.func31 (by kernel_rfl) rfl)
    (within_stops (4 - 1) (by decide) (w.heap.size + 2) p a cap L fr tk w HS.out HL.out W1 hB1 hbx) keepsW_t (keepsW_b (by omega) (by omega)) (Below.refl _ _) (fun _ => rfl)
    (fun pre W => (Boxed W w.heap.size 3 (.int .i64 (firstOf pre : Nat)) ∧ Boxed W (w.heap.size + 1) 3 (.int .i64 (pre.length : Nat))) ∧ Below w.heap.size w W ∧ BoxesAt W (w.heap.size + 2) p fr tk)
    (fun _ _ _ => False)
    ?hI
    (fun _ _ _ _ _ hs _ _ => hs)
    ⟨⟨hbF, hbM⟩, hB1, hbx⟩
    (fun x => { tmps := #[.pointer (some ⟨p, 0, none⟩), .string fr, .string tk, undef, undef, undef, .pointer (some ⟨w.heap.size, 0, none⟩), .pointer (some ⟨w.heap.size + 1, 0, none⟩), .int .i64 (x.1 : Int), .pointer (some ⟨p, 0, none⟩), .string fr, .string tk, .func (.func 31) #[] #[.pointer (some ⟨w.heap.size + 2, 0, none⟩), .pointer (some ⟨w.heap.size + 2 + 1, 0, none⟩), .pointer (some ⟨w.heap.size + 2 + 2, 0, none⟩)], .int .i64 (x.1 : Int), .agg #[.string x.2.key, .string x.2.value, .int .i64 x.2.ver], undef, undef, undef, undef, undef, undef, undef, undef, undef, undef, undef, undef, undef, undef, undef, undef, undef, undef, undef, undef, undef, undef, undef, undef], defers := [] })
    ?assign ?body ?done ?stop
  case hI =>
    rintro s X Y row ⟨⟨hf, hm⟩, hb, hq⟩ hg hr
    exact ⟨⟨hf.kept hg fun e => by have := (hr _ e.symm).1; omega, hm.kept hg fun e => by have := (hr _ e.symm).1; omega⟩, hb.grown hg hb.size (fun j e => by have := (hr j e).1; omega), hq.grown hg fun r e => by have := (hr r e).1; exact ⟨by omega, by omega, by omega⟩⟩
  case assign =>
    intro l x W K hK
    gi_wp2
    exact hK
  case body =>
    rintro l pre x W ⟨⟨hf, hm⟩, hB, hq⟩ hlt
    have hpl : pre.length < 500 := Nat.lt_of_lt_of_le hlt HLN.out
    have hcf := hf.cell
    have hcm := hm.cell
    have hff := hf.frozen
    have hfm := hm.frozen
    have lf := hf.lt
    have lm := hm.lt
    have hsz : w.heap.size ≤ W.heap.size := hB.size
    cases pre with
    | nil =>
      simp only [List.length_nil] at hcm
      gi_wp2
      have hf2 := (hf.set (.int .i64 (x.1 : Int))).other (B' := w.heap.size + 1) (by omega) (.int .i64 1)
      have hm2 := (hm.other (B' := w.heap.size) (by omega) (.int .i64 (x.1 : Int))).set (.int .i64 1)
      have hb2 : Below w.heap.size W ((W.setCell ⟨w.heap.size, 0, none⟩ (.int .i64 (x.1 : Int))).setCell ⟨w.heap.size + 1, 0, none⟩ (.int .i64 1)) := ((Below.refl _ W).setCell (p := ⟨w.heap.size, 0, none⟩) (Nat.le_refl _) _).setCell (p := ⟨w.heap.size + 1, 0, none⟩) (by simp) _
      have hq2 : BoxesAt ((W.setCell ⟨w.heap.size, 0, none⟩ (.int .i64 (x.1 : Int))).setCell ⟨w.heap.size + 1, 0, none⟩ (.int .i64 1)) (w.heap.size + 2) p fr tk := (hq.grown (grownBy_setCell' W _ _) fun r e => by cases e; exact ⟨by omega, by omega, by omega⟩).grown (grownBy_setCell' _ _ _) fun r e => by cases e; exact ⟨by omega, by omega, by omega⟩
      exact ⟨((KeepsOthers.setCell _ _ _).trans (KeepsOthers.setCell _ _ _)).from _, ⟨hb2, fun _ => hq2⟩, ⟨hf2, hm2⟩, hB.trans hb2, hq2⟩
    | cons y pre =>
      obtain ⟨k, hk⟩ : ∃ k, k = (y :: pre).length := ⟨_, rfl⟩
      have e2 : (y :: pre ++ [x]).length = k + 1 := by rw [hk]; simp
      rw [← hk] at hcm hpl
      have hk0 : (k : Int) ≠ 0 := by rw [hk]; simp; omega
      have hk9 : (k : Int) < 500 := by omega
      clear hk
      gi_wp2
      have hm2 : Boxed (W.setCell ⟨w.heap.size + 1, 0, none⟩ (.int .i64 ((k : Int) + 1))) (w.heap.size + 1) 3 (.int .i64 ((y :: pre ++ [x]).length : Nat)) := by
        rw [e2]
        exact hm.set _
      have hf2 := hf.other (B' := w.heap.size + 1) (by omega) (.int .i64 ((k : Int) + 1))
      have hb2 : Below w.heap.size W (W.setCell ⟨w.heap.size + 1, 0, none⟩ (.int .i64 ((k : Int) + 1))) := (Below.refl _ W).setCell (p := ⟨w.heap.size + 1, 0, none⟩) (by simp) _
      have hq2 : BoxesAt (W.setCell ⟨w.heap.size + 1, 0, none⟩ (.int .i64 ((k : Int) + 1))) (w.heap.size + 2) p fr tk := hq.grown (grownBy_setCell' _ _ _) fun r e => by cases e; exact ⟨by omega, by omega, by omega⟩
      exact ⟨(KeepsOthers.setCell _ _ _).from _, ⟨hb2, fun _ => hq2⟩, ⟨hf2, hm2⟩, hB.trans hb2, hq2⟩
  case done =>
    rintro D ys W hD rfl ⟨⟨hf, hm⟩, hB, hq⟩ hK
    have hcf := hf.cell
    have hcm := hm.cell
    rw [firstOf_rows] at hcf
    rw [rows_len] at hcm
    obtain ⟨d, hd⟩ : ∃ d, d = dropAt L fr tk := ⟨_, rfl⟩
    obtain ⟨ct, hct⟩ : ∃ ct, ct = (L.filter (inR fr tk)).length := ⟨_, rfl⟩
    have hd2 := HDE.out
    rw [← hd, ← hct] at hd2
    rw [← hd] at hcf
    rw [← hct] at hcm
    obtain ⟨m, hm9⟩ : ∃ m, m = d + ct := ⟨_, rfl⟩
    rw [← hm9] at hd2
    obtain ⟨hle, heq⟩ := hd2
    have hwr : IntKind.i64.wrap ((d : Int) + (ct : Int)) = (m : Int) := by
      have := HL.out
      rw [IntKind.wrap_i64]; omega
    have hdm : d ≤ m := by omega
    have hcm0 : ct ≤ m := by omega
    clear hm9
    obtain ⟨N, hN⟩ : ∃ N, N = L.length := ⟨_, rfl⟩
    have HN := Lib.hid hN
    rw [← hN] at hle
    have hN9 : N ≤ 500 := by rw [hN]; exact HL.out
    have hs2 := HS.out.below hB
    have q0 : W.cell? ⟨p, 0, none⟩ = some (.slice a N cap) := by rw [cell_of_row _ _ _ _ _ _ hs2.cell, ← HN.out]; rfl
    have qf : W.frozen? ⟨p, 0, none⟩ = false := by simp [World.frozen?, hs2.cell]
    have lp2 := lt_of_heap hs2.cell
    have lf := hf.lt
    have lm := hm.lt
    have HSC := Lib.hid hs2.cell
    have HSR := Lib.hid hs2.src
    have hNc : N ≤ cap := by rw [hN]; exact hs2.src.room
    have hcm9 : cap ≤ maxLen := hs2.src.max
    have HEQ := Lib.hid heq
    have HBB := Lib.hid hB
    obtain ⟨R, hR⟩ : ∃ R, R = L.filter fun e => !inR fr tk e := ⟨_, rfl⟩
    rw [← hR] at HEQ
    have HRD := Lib.hid hR
    have HC2 : Hid (∀ (a2 : Option Addr), SrcAt W a2 (cap - m) (L.drop m) → Calls Try.prog 27 #[.slice (some ⟨W.heap.size, 0, none⟩) 2 2] (W.drew.alloc (.cells #[.slice a d cap, .slice a2 (N - m) (cap - m)] 22)) fun r w' => ∃ a' cap', r = .returned (.slice a' R.length cap') ∧ (∀ u, SrcAt (w'.setCell ⟨p, 0, none⟩ u) a' cap' R) ∧ Below W.heap.size W w' ∧ w'.cell? ⟨p, 0, none⟩ = some (.slice a N cap) ∧ (∀ i, w'.frozen? ⟨p, i, none⟩ = false) ∧ p < w'.heap.size) := fun a2 ha2 => by
      have hbA : Below W.heap.size W (W.drew.alloc (.cells #[.slice a d cap, .slice a2 (N - m) (cap - m)] 22)) := (Below.refl _ W).drew.alloc (by simp) _
      have e1 : (L.take d).length = d := by rw [List.length_take]; omega
      have e2 : (L.drop m).length = N - m := by rw [List.length_drop, ← HN.out]
      refine (concat_27 W.heap.size a a2 cap (cap - m) (L.take d) (L.drop m) _ (by rw [e1, e2]; exact heap_alloc_new W.drew _) ((src_take HSR.out d).below hbA) (ha2.below hbA) (by omega) (by omega)).mono ?_
      rintro r w' ⟨u, rfl, hown, hb⟩
      rw [HEQ.out] at hown
      obtain ⟨a', cap', rfl, _⟩ := row_form hown
      have hBB := hbA.trans (hb.mono hbA.size)
      have hc := (hBB.block _ (lt_of_heap HSC.out)).trans HSC.out
      refine ⟨a', cap', rfl, fun u => row_src (row_wrote hown ((Wrote.refl [p] w').setCell (p := ⟨p, 0, none⟩) (.inl (List.mem_singleton.2 rfl)) u) fun g hg hm => ?_) rfl, hBB, by rw [cell_of_row _ _ _ _ _ _ hc, ← HN.out]; rfl, fun i => by simp [World.frozen?, hc], lt_of_heap hc⟩
      obtain rfl : g = p := by simpa using hm
      obtain ⟨_, cur, hcur⟩ := row_block hown hg
      rw [hc] at hcur
      cases hcur
    have HEND : Hid (∀ a' cap' w', Below W.heap.size W w' → ((w'.setCell ⟨p, 0, none⟩ (.slice a' R.length cap')).heap[D]? = some (.deferred (some []))) ∧ Wrote [p] w (w'.setCell ⟨p, 0, none⟩ (.slice a' R.length cap')) ∧ (w'.setCell ⟨p, 0, none⟩ (.slice a' R.length cap')).heap[p]? = some (.cells #[.slice a' R.length cap'] 52 (0, 0))) := fun a' cap' w' h2 => by
      have hc := (h2.block _ (lt_of_heap HSC.out)).trans HSC.out
      have hk := (h2.block _ (lt_of_heap hK)).trans hK
      have hBB := HBB.out.trans (h2.mono HBB.out.size)
      exact ⟨(KeepsOthers.setCell w' ⟨p, 0, none⟩ _).same D _ hk rfl, ((Wrote.of_below (S := []) hBB).mono (T := [p]) (by simp)).setCell (p := ⟨p, 0, none⟩) (.inl (List.mem_singleton.2 rfl)) _, heap_setCell_same _ p 0 _ _ _ hc⟩
    clear hf hm hB hq hs2 hd hct heq hR hN
    gi_upto_region 6 with fail
    obtain ⟨QQ, hq1, hq2⟩ : ∃ QQ : Exit → Act → World → Prop, (∀ (a' : Option Addr) (cap' : Nat) (w' : World) (act : Act), act.defers = [{ target := .collected D, args := #[] }] → Below W.heap.size W w' → (∀ u, SrcAt (w'.setCell ⟨p, 0, none⟩ u) a' cap' R) → QQ .normal act (w'.setCell ⟨p, 0, none⟩ (.slice a' R.length cap'))) ∧ (∀ e b v, QQ e b v → bodyPostM Fence.wide 4 Try.prog Try.f18 (DropLeft w p (L.filter fun e => !inR fr tk e)) e b v) := by
      refine ⟨_, fun a' cap' w' act h1 h2 h3 => ?_, fun e b v h => h⟩
      obtain ⟨he1, he2, he3⟩ := HEND.out a' cap' w' h2
      show LeavesInM Fence.wide 4 Try.prog Try.f18 act.tmps _ act.defers FrameMode.returning _
      rw [h1]
      unfold LeavesInM
      refine ⟨by simp, .inl ⟨_, _, rfl, run_takeDeferred he1, ?_⟩⟩
      unfold LeavesInM
      have hsz9 : w.heap.size ≤ D := by omega
      refine ⟨_, results_none rfl _ _ _, ⟨_, rfl⟩, ⟨he2.os, he2.tape, he2.output, Nat.le_trans he2.size (by simp), fun k hk hk2 => (World.putObj_heap_other (by omega)).trans (he2.block k hk hk2)⟩, a', cap', ?_, ?_⟩
      · rw [← HRD.out]
        exact (World.putObj_heap_other (by omega)).trans he3
      · rw [← HRD.out]
        exact src_put (h3 _) he1 _
    refine wpIn_mono (Q := QQ) ?_ hq2
    clear hq2
    cases a with
    | none =>
      obtain rfl := HSR.out.nil rfl
      obtain rfl : N = 0 := by omega
      obtain rfl : m = 0 := by omega
      obtain rfl : ct = 0 := by omega
      have hw0 : IntKind.i64.wrap 0 = 0 := by decide
      obtain rfl : d = 0 := by omega
      have HC3 := Lib.hid (HC2.out none ⟨fun i x hi => by rw [List.getElem?_drop] at hi; have := (List.getElem?_eq_some_iff.1 hi).1; have := HSR.out.room; omega, fun _ => rfl, (fun b h => by cases h), by rw [List.length_drop]; have := HSR.out.room; omega, by unfold maxLen; omega⟩)
      refine wpIn_wide.2 ?_
      refine wp_region_noPanic ?_
      refine wp_region_one 15 (by kernel_rfl) (by kernel_rfl) (fun _ _ _ _ _ h => h) (.inl ⟨by kernel_rfl, fun _ => rfl⟩) ?_
      simp only [List.take_succ_cons, List.take_zero, Nat.reduceSub]
      iterate 14 (with_reducible refine wpQuiet_step (fun K hK => ?_); go_simp; (refine hK _ ?_; clear hK K))
      with_reducible refine wpQuiet_nil ?_
      go_wp2_with (go_at_call 27; refine HC3.out.mono ?_; rintro r w' ⟨a', cap', rfl, hsrc, hb, c0, fz, hlt2⟩)
      exact hq1 a' cap' w' _ rfl hb hsrc
    | some ad =>
      obtain ⟨g, o, spot⟩ := ad
      obtain rfl := HSR.out.some _ rfl
      have i1 : (0 : Int) ≤ (d : Int) := by omega
      have i2 : (d : Int) ≤ (cap : Int) := by omega
      have i3 : (m : Int) ≤ (N : Int) := by omega
      have i4 : (0 : Int) ≤ (m : Int) := by omega
      have i5 : (N : Int) ≤ (cap : Int) := by omega
      have i6 : (cap : Int) ≤ 9223372036854775807 := by unfold maxLen at hcm9; omega
      by_cases hcap : cap = m
      · have HC3 := Lib.hid (HC2.out (some ⟨g, o, none⟩) (by have := src_drop HSR.out (i := m) (by rw [← HN.out]; exact hle); rwa [if_pos hcap] at this))
        simp only [hcap, Nat.sub_self] at HC3
        refine wpIn_wide.2 ?_
        refine wp_region_noPanic ?_
        refine wp_region_one 15 (by kernel_rfl) (by kernel_rfl) (fun _ _ _ _ _ h => h) (.inl ⟨by kernel_rfl, fun _ => rfl⟩) ?_
        simp only [List.take_succ_cons, List.take_zero, Nat.reduceSub]
        iterate 14 (with_reducible refine wpQuiet_step (fun K hK => ?_); go_simp; (refine hK _ ?_; clear hK K))
        with_reducible refine wpQuiet_nil ?_
        go_wp2_with (go_at_call 27; refine HC3.out.mono ?_; rintro r w' ⟨a', cap', rfl, hsrc, hb, c0, fz, hlt2⟩)
        exact hq1 a' cap' w' _ rfl hb hsrc
      · have HC3 := Lib.hid (HC2.out (some ⟨g, o + m * 3, none⟩) (by have := src_drop HSR.out (i := m) (by rw [← HN.out]; exact hle); rwa [if_neg hcap] at this))
        refine wpIn_wide.2 ?_
        refine wp_region_noPanic ?_
        refine wp_region_one 15 (by kernel_rfl) (by kernel_rfl) (fun _ _ _ _ _ h => h) (.inl ⟨by kernel_rfl, fun _ => rfl⟩) ?_
        simp only [List.take_succ_cons, List.take_zero, Nat.reduceSub]
        iterate 14 (with_reducible refine wpQuiet_step (fun K hK => ?_); go_simp; (refine hK _ ?_; clear hK K))
        with_reducible refine wpQuiet_nil ?_
        go_wp2_with (go_at_call 27; refine HC3.out.mono ?_; rintro r w' ⟨a', cap', rfl, hsrc, hb, c0, fz, hlt2⟩)
        exact hq1 a' cap' w' _ rfl hb hsrc
  case stop =>
    rintro D c pre W _ _ h _
    exact h.elim
end Go.Proofs.Ytopmbphdkohbmaa
