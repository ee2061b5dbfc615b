/- The document's open numbers: kept, Cut. -/
import Derived.Test.YtelmgaaofighpaaSd2
namespace Go.Proofs.Ytelmgaaofighpaa
open Go.RowKit Go.My Go.My.Slots

theorem row_lower {w : World} {base base' : Nat} {e : TypeId} {c : Nat} {v : Value} {n : Nat} {xs : List Value} (h : w.ownsRow base e c v n xs) (hb : base' ≤ base) : w.ownsRow base' e c v n xs := by
  refine ⟨h.1, ?_⟩
  rcases h.2 with h0 | ⟨g, cap, cur, rfl, h1, h2⟩
  · exact .inl h0
  · exact .inr ⟨g, cap, cur, rfl, Nat.le_trans hb h1, h2⟩
section
variable {w0 w1 : World} {base d : Nat} {v : Dv} {s : St}
theorem DocAt.row_lt {e : TypeId} {c : Nat} {x : Value} {n : Nat} {xs : List Value} (hr : w0.ownsRow base e c x n xs) {g : Nat} (hg : x.ownBlock = some g) : g < w0.heap.size := by
  obtain ⟨_, cur, h⟩ := row_block hr hg
  exact lt_of_heap h
theorem DocAt.storeLow (h : DocAt w0 base d v s) (z : Int) : DocAt (w0.setCell ⟨d, 0, none⟩ (.int .i64 z)) base d v { s with low := z } ∧ Bk base w0 (w0.setCell ⟨d, 0, none⟩ (.int .i64 z)) := by
  refine ⟨⟨h.lo, heap_setCell_same _ d 0 _ _ _ h.cell, row_set h.T (h.ne h.T (by decide)), row_set h.V (h.ne h.V (by decide)), row_set h.P (h.ne h.P (by decide)), row_set h.D (h.ne h.D (by decide)), h.ap⟩, ?_⟩
  exact Bk.of_wrote ((Wrote.refl [d] w0).setCell (p := ⟨d, 0, none⟩) (.inl (by simp)) _) (Nat.le_trans h.lo (Nat.le_of_lt h.lt)) (fun k hk => by rw [List.mem_singleton.1 hk]; exact h.lo) fun k hk cs => by rw [List.mem_singleton.1 hk]; exact h.noop cs
theorem DocAt.storeT {x : Value} {l : List (Int × Int)} (h0 : DocAt w0 base d v s) (hb : Below w0.heap.size w0 w1) (hrow : w1.ownsRow w0.heap.size 74 2 x l.length (l.flatMap isL)) :
    DocAt (w1.setCell ⟨d, 2, none⟩ x) base d { v with T := x } { s with acc := l } ∧ Bk base w0 (w1.setCell ⟨d, 2, none⟩ x) := by
  have h := h0.below hb
  have hbl : base ≤ w0.heap.size := Nat.le_trans h0.lo (Nat.le_of_lt h0.lt)
  have hx : ∀ g, x.ownBlock = some g → g ≠ d := fun g hg e => by
    have h1 := (row_block hrow hg).1
    have h2 := h0.lt
    omega
  refine ⟨⟨h0.lo, heap_setCell_same _ d 2 _ _ _ h.cell, row_set (row_lower hrow hbl) hx, row_set h.V (h.ne h.V (by decide)), row_set h.P (h.ne h.P (by decide)), row_set h.D (h.ne h.D (by decide)), ?_⟩, ?_⟩
  · intro g hg hD
    have h1 := (row_block hrow hg).1
    have h2 := DocAt.row_lt h0.D hD
    omega
  · exact (Bk.of_below hb hbl).trans (Bk.of_wrote ((Wrote.refl [d] w1).setCell (p := ⟨d, 2, none⟩) (.inl (by simp)) _) (Nat.le_trans hbl hb.size) (fun k hk => by rw [List.mem_singleton.1 hk]; exact h0.lo) fun k hk cs => by rw [List.mem_singleton.1 hk]; exact h.noop cs)
theorem DocAt.storeD {x : Value} {l : List (Int × Int)} (h0 : DocAt w0 base d v s) (hb : Below w0.heap.size w0 w1) (hrow : w1.ownsRow w0.heap.size 74 2 x l.length (l.flatMap isL)) :
    DocAt (w1.setCell ⟨d, 5, none⟩ x) base d { v with D := x } { s with dec := l } ∧ Bk base w0 (w1.setCell ⟨d, 5, none⟩ x) := by
  have h := h0.below hb
  have hbl : base ≤ w0.heap.size := Nat.le_trans h0.lo (Nat.le_of_lt h0.lt)
  have hx : ∀ g, x.ownBlock = some g → g ≠ d := fun g hg e => by
    have h1 := (row_block hrow hg).1
    have h2 := h0.lt
    omega
  refine ⟨⟨h0.lo, heap_setCell_same _ d 5 _ _ _ h.cell, row_set h.T (h.ne h.T (by decide)), row_set h.V (h.ne h.V (by decide)), row_set h.P (h.ne h.P (by decide)), row_set (row_lower hrow hbl) hx, ?_⟩, ?_⟩
  · intro g hT hg
    have h1 := (row_block hrow hg).1
    have h2 := DocAt.row_lt h0.T hT
    omega
  · exact (Bk.of_below hb hbl).trans (Bk.of_wrote ((Wrote.refl [d] w1).setCell (p := ⟨d, 5, none⟩) (.inl (by simp)) _) (Nat.le_trans hbl hb.size) (fun k hk => by rw [List.mem_singleton.1 hk]; exact h0.lo) fun k hk cs => by rw [List.mem_singleton.1 hk]; exact h.noop cs)
theorem DocAt.storeV {x : Value} {l : List ((Int × Int × Int) × Int)} (h0 : DocAt w0 base d v s) (hb : Below w0.heap.size w0 w1) (hrow : w1.ownsRow w0.heap.size 76 4 x l.length (l.flatMap voL)) :
    DocAt (w1.setCell ⟨d, 3, none⟩ x) base d { v with V := x } { s with votes := l } ∧ Bk base w0 (w1.setCell ⟨d, 3, none⟩ x) := by
  have h := h0.below hb
  have hbl : base ≤ w0.heap.size := Nat.le_trans h0.lo (Nat.le_of_lt h0.lt)
  have hx : ∀ g, x.ownBlock = some g → g ≠ d := fun g hg e => by
    have h1 := (row_block hrow hg).1
    have h2 := h0.lt
    omega
  refine ⟨⟨h0.lo, heap_setCell_same _ d 3 _ _ _ h.cell, row_set h.T (h.ne h.T (by decide)), row_set (row_lower hrow hbl) hx, row_set h.P (h.ne h.P (by decide)), row_set h.D (h.ne h.D (by decide)), h.ap⟩, ?_⟩
  · exact (Bk.of_below hb hbl).trans (Bk.of_wrote ((Wrote.refl [d] w1).setCell (p := ⟨d, 3, none⟩) (.inl (by simp)) _) (Nat.le_trans hbl hb.size) (fun k hk => by rw [List.mem_singleton.1 hk]; exact h0.lo) fun k hk cs => by rw [List.mem_singleton.1 hk]; exact h.noop cs)
theorem DocAt.storeP {x : Value} {l : List (Int × Int × Int)} {q : List (Int × Int × Int × Int)} (hq : proofsL { s with proofs := q } = l) (h0 : DocAt w0 base d v s) (hb : Below w0.heap.size w0 w1) (hrow : w1.ownsRow w0.heap.size 44 6 x l.length (l.flatMap prepL)) :
    DocAt (w1.setCell ⟨d, 4, none⟩ x) base d { v with P := x } { s with proofs := q } ∧ Bk base w0 (w1.setCell ⟨d, 4, none⟩ x) := by
  have h := h0.below hb
  have hbl : base ≤ w0.heap.size := Nat.le_trans h0.lo (Nat.le_of_lt h0.lt)
  have hx : ∀ g, x.ownBlock = some g → g ≠ d := fun g hg e => by
    have h1 := (row_block hrow hg).1
    have h2 := h0.lt
    omega
  refine ⟨⟨h0.lo, heap_setCell_same _ d 4 _ _ _ h.cell, row_set h.T (h.ne h.T (by decide)), row_set h.V (h.ne h.V (by decide)), ?_, row_set h.D (h.ne h.D (by decide)), h.ap⟩, ?_⟩
  · show World.ownsRow _ _ _ _ _ (proofsL { s with proofs := q }).length ((proofsL { s with proofs := q }).flatMap prepL)
    rw [hq]
    exact row_set (row_lower hrow hbl) hx
  · exact (Bk.of_below hb hbl).trans (Bk.of_wrote ((Wrote.refl [d] w1).setCell (p := ⟨d, 4, none⟩) (.inl (by simp)) _) (Nat.le_trans hbl hb.size) (fun k hk => by rw [List.mem_singleton.1 hk]; exact h0.lo) fun k hk cs => by rw [List.mem_singleton.1 hk]; exact h.noop cs)
end
theorem above_take {V : Type} {l : List (Int × V)} {j : Nat} {x : Int × V} (hx : l[j]? = some x) (low : Int) : above low (l.take (j + 1)) = if low < x.1 then above low (l.take j) ++ [x] else above low (l.take j) := by
  rw [List.take_add_one, hx]
  unfold above
  rw [List.filter_append]
  by_cases h : low < x.1 <;> simp [h]
theorem aboveV_take {l : List ((Int × Int × Int) × Int)} {j : Nat} {x : (Int × Int × Int) × Int} (hx : l[j]? = some x) (low : Int) : aboveV low (l.take (j + 1)) = if low < x.1.2.1 then aboveV low (l.take j) ++ [x] else aboveV low (l.take j) := by
  rw [List.take_add_one, hx]
  unfold aboveV
  rw [List.filter_append]
  by_cases h : low < x.1.2.1 <;> simp [h]
def aboveP (low : Int) (l : List (Int × Int × Int)) : List (Int × Int × Int) := l.filter fun p => decide (low < p.1)
theorem aboveP_take {l : List (Int × Int × Int)} {j : Nat} {x : Int × Int × Int} (hx : l[j]? = some x) (low : Int) : aboveP low (l.take (j + 1)) = if low < x.1 then aboveP low (l.take j) ++ [x] else aboveP low (l.take j) := by
  rw [List.take_add_one, hx]
  unfold aboveP
  rw [List.filter_append]
  by_cases h : low < x.1 <;> simp [h]
/-- a row in the making -/
structure MkRel {α : Type} (f : α → List Value) (t : TypeId) (c : Nat) (w : World) (l : List α) (v : Value) (wr : World) : Prop where
  row : wr.ownsRow w.heap.size t c v l.length (l.flatMap f)
  below : Below w.heap.size w wr
theorem MkRel.next {α : Type} {f : α → List Value} {t : TypeId} {c : Nat} {w wr w3 : World} {l : List α} {v v1 : Value} {x : α} (h : MkRel f t c w l v wr) (ob : Obj) (hown : w3.ownsRow w.heap.size t c v1 (l.length + 1) (l.flatMap f ++ f x)) (hg : (wr.alloc ob).grownBy w3 v.ownBlock) : MkRel f t c w (l ++ [x]) v1 w3 := by
  refine ⟨by rw [List.length_append, List.flatMap_append]; simpa using hown, ?_⟩
  exact h.below.trans ((((Wrote.refl _ wr).alloc ob).trans (Wrote.of_grown hg)).below h.below.size fun g hg => (row_block h.row (by simpa using hg)).1)
set_option maxRecDepth 100000 in
set_option maxHeartbeats 1600000 in
theorem kept_any (a : Option Addr) (cap : Nat) (l : List (Int × Int)) (low : Int) (w : World) (h : LiesAt w a 2 isL l) (hl : l.length ≤ 10000) :
    Calls Try.prog 48 #[.slice a l.length cap, .int .i64 low] w fun e w' => ∃ x, e = .returned x ∧ MkRel isL 74 2 w (above low l) x w' := by
  obtain ⟨i0, hi0, hz0, hz1, hz2⟩ := info_parts is_info
  have HI := Lib.hid hi0
  have HZ := Lib.hid hz0
  have HS := Lib.hid hz1
  have HY := Lib.hid hz2
  have HL := Lib.hid h
  obtain ⟨n, hn⟩ : ∃ n, n = l.length := ⟨_, rfl⟩
  have HN := Lib.hid hn
  have hn9 : (n : Int) ≤ 10000 := by omega
  rw [← hn]
  have P0 : Hid (MkRel isL 74 2 w (above low (l.take 0)) (.slice none 0 0) w) := ⟨World.ownsRow_nil _ _ _ _, Below.refl _ _⟩
  clear h hl hn hi0 hz0 hz1 hz2
  go_enter Try.func48, Try.ntmps48
  go_wp2_with fail
  go_loopw [5, 6] (fun v i wr => ∃ j : Nat, j ≤ n ∧ i = .int .i64 j ∧ Hid (MkRel isL 74 2 w (above low (l.take j)) v wr)) (fun _ i _ => n - (intOf i).toNat)
  case atStart => exact ⟨0, by omega, rfl, P0⟩
  case round =>
    clear P0
    obtain ⟨j, hj, rfl, HJ⟩ := hrel
    by_cases hlt : j < n
    · obtain ⟨⟨xn, xd⟩, hx⟩ : ∃ x, l[j]? = some x := ⟨_, List.getElem?_eq_getElem (by rw [← HN.out]; exact hlt)⟩
      obtain ⟨g, o, rfl, lg, hc⟩ := (HL.out.below HJ.out.below) j _ hx
      have d0 : wr.cell? ⟨g, o + j * 2, none⟩ = some (.int .i64 xn) := hc 0 _ rfl
      have d1 : wr.cell? ⟨g, o + j * 2 + 1, none⟩ = some (.int .i64 xd) := hc 1 _ rfl
      have HST := Lib.hid (above_take hx low)
      have HLEN : Hid ((above low (l.take j)).length ≤ j) := by
        show _ ≤ _
        have : (above low (l.take j)).length ≤ (l.take j).length := List.length_filter_le _ _
        rw [List.length_take] at this
        omega
      have hj0 : (0 : Int) ≤ (j : Int) := by omega
      have hj1 : (j : Int) < (n : Int) := by omega
      have hjs : j + 1 ≤ n := hlt
      clear hx hc lg
      by_cases h1 : low < xn
      · have hst : above low (l.take (j + 1)) = above low (l.take j) ++ [(xn, xd)] := by rw [HST.out, if_pos h1]
        have HNE := Lib.hid hst
        clear hst
        go_upto_region 6 with fail
        go_wp2_with (at_builtin; refine wpList_append_own _ rfl _ _ 47 rfl w.heap.size 74 i0 _ 2 16 Try.underlying47 HI.out HZ.out HS.out HY.out rfl (by decide) _ _ _ rfl (HJ.out.row.alloc _) ⟨wr.heap.size, 0, none⟩ 1 1 (isL (xn, xd)) rfl rfl (is_cells wr (xn, xd) 74) (is_one (xn, xd)) (by have := HLEN.out; unfold maxLen; omega) (by have := HLEN.out; omega) (by have := HJ.out.below.size; simp; omega) ?_)
        intro v1 w3 hown hg _
        have HNX : Hid (MkRel isL 74 2 w (above low (l.take (j + 1))) v1 w3) := by
          show MkRel _ _ _ _ _ _ _
          rw [HNE.out]
          exact HJ.out.next _ hown hg
        clear hown hg
        go_wp2_with fail
        exact ⟨⟨j + 1, hjs, by simp, HNX⟩, by simp [intOf]; omega⟩
      · have HNX : Hid (MkRel isL 74 2 w (above low (l.take (j + 1))) u5 wr) := by
          show MkRel _ _ _ _ _ _ _
          rw [HST.out, if_neg h1]
          exact HJ.out
        go_wp2_with fail
        exact ⟨⟨j + 1, hjs, by simp, HNX⟩, by simp [intOf]; omega⟩
    · obtain rfl : n = j := by omega
      have HE : Hid (MkRel isL 74 2 w (above low l) u5 wr) := by
        have h := HJ.out
        rw [List.take_of_length_le (by rw [← HN.out]; exact Nat.le_refl _)] at h
        exact h
      go_wp2_with fail
      go_ret
      exact ⟨_, rfl, HE.out⟩
theorem sorted_ext : ∀ {L M : List (Int × Int × Int)}, L.Pairwise (fun a b => a.1 < b.1) → M.Pairwise (fun a b => a.1 < b.1) → (∀ x, x ∈ L ↔ x ∈ M) → L = M
  | [], [], _, _, _ => rfl
  | [], b :: M, _, _, h => by have := (h b).2 (by simp); cases this
  | a :: L, [], _, _, h => by have := (h a).1 (by simp); cases this
  | a :: L, b :: M, hl, hm, h => by
    obtain ⟨l1, l2⟩ := List.pairwise_cons.1 hl
    obtain ⟨m1, m2⟩ := List.pairwise_cons.1 hm
    have hab : a = b := by
      rcases List.mem_cons.1 ((h a).1 (by simp)) with e | ha
      · exact e
      · rcases List.mem_cons.1 ((h b).2 (by simp)) with e | hb
        · exact e.symm
        · have := m1 a ha
          have := l1 b hb
          omega
    subst hab
    rw [sorted_ext l2 m2 fun x => ?_]
    constructor
    · intro hx
      rcases List.mem_cons.1 ((h x).1 (by simp [hx])) with e | hx'
      · have := l1 x hx
        rw [e] at this
        omega
      · exact hx'
    · intro hx
      rcases List.mem_cons.1 ((h x).2 (by simp [hx])) with e | hx'
      · have := m1 x hx
        rw [e] at this
        omega
      · exact hx'
theorem proofsL_up {s : St} (hn : (s.proofs.map (·.1)).Nodup) (hp : ∀ p ∈ s.proofs, p.2.1 = p.1) : (proofsL s).Pairwise (fun a b => a.1 < b.1) ∧ ∀ x, x ∈ proofsL s ↔ aget s.proofs x.1 = some x := by
  have key : ∀ n ∈ sortK s.proofs, ∃ x : Int × Int × Int, aget s.proofs n = some x ∧ x.1 = n := fun n hn' => by
    have h1 : n ∈ s.proofs.map (·.1) := (sortK_perm s.proofs).mem_iff.1 hn'
    obtain ⟨p, hp', rfl⟩ := List.mem_map.1 h1
    exact ⟨p.2, aget_at hn hp', hp p hp'⟩
  constructor
  · unfold proofsL
    rw [List.pairwise_map]
    refine (sortK_up hn).imp_of_mem fun {a b} ha hb hab => ?_
    obtain ⟨x, hx, ex⟩ := key a ha
    obtain ⟨y, hy, ey⟩ := key b hb
    rw [hx, hy]
    show x.1 < y.1
    omega
  · intro x
    unfold proofsL
    rw [List.mem_map]
    constructor
    · rintro ⟨n, hn', e⟩
      obtain ⟨y, hy, ey⟩ := key n hn'
      rw [hy] at e
      have e : y = x := e
      rw [← e, ey]
      exact hy
    · intro h
      refine ⟨x.1, ?_, by rw [h]; rfl⟩
      exact (sortK_perm s.proofs).mem_iff.2 (List.mem_map.2 ⟨_, aget_some_mem h, rfl⟩)
theorem proofs_cut {s : St} (h : Inv s) (low : Int) : proofsL { s with proofs := above low s.proofs } = aboveP low (proofsL s) := by
  have hp : ∀ p ∈ s.proofs, p.2.1 = p.1 := fun p hp => (h.proofs p hp).2.1
  obtain ⟨u1, m1⟩ := proofsL_up h.nproofs hp
  have hsub : (above low s.proofs).Sublist s.proofs := List.filter_sublist
  obtain ⟨u2, m2⟩ := proofsL_up (s := { s with proofs := above low s.proofs }) (h.nproofs.sublist (hsub.map _)) (fun p hp' => hp p (List.mem_filter.1 hp').1)
  refine sorted_ext u2 (u1.sublist List.filter_sublist) fun x => ?_
  rw [m2 x]
  unfold aboveP
  rw [List.mem_filter, m1 x]
  show aget (above low s.proofs) x.1 = some x ↔ _
  constructor
  · intro hx
    obtain ⟨h1, h2⟩ := List.mem_filter.1 (aget_some_mem hx)
    exact ⟨by have := aget_at h.nproofs h1; exact this, h2⟩
  · rintro ⟨hx, hlow⟩
    have h1 := aget_some_mem hx
    have h2 : (x.1, x) ∈ above low s.proofs := List.mem_filter.2 ⟨h1, hlow⟩
    exact aget_at (h.nproofs.sublist (hsub.map _)) h2
theorem prep_one (p : Int × Int × Int) : ∀ u ∈ prepL p, u.oneCell' = true := by
  intro u hu
  simp only [prepL, prepCells, List.mem_cons, List.not_mem_nil, or_false] at hu
  rcases hu with rfl | rfl | rfl | rfl | rfl | rfl <;> rfl
theorem prep_cells (w : World) (p : Int × Int × Int) (t : TypeId) (j : Nat) (u : Value) (h : (prepL p)[j]? = some u) : (w.alloc (.cells #[.int .i64 p.1, .int .i64 p.2.1, .int .i64 p.2.2, .int .i64 0, .int .i64 0, .slice none 0 0] t)).cell? ((⟨w.heap.size, 0, none⟩ : Addr).add j) = some u := by
  rw [Addr.add_lit, Nat.zero_add, cell_of_row _ _ _ _ _ _ (heap_alloc_new w _)]
  simpa [prepL, prepCells] using h
set_option maxRecDepth 100000 in
set_option maxHeartbeats 6400000 in
theorem dcut_any (base d : Nat) (v : Dv) (s : St) (low : Int) (w : World) (h : DocAt w base d v s) (hi : Inv s) (hlen : s.acc.length ≤ 10000 ∧ s.dec.length ≤ 10000 ∧ s.votes.length ≤ 10000 ∧ (proofsL s).length ≤ 10000) :
    Calls Try.prog 40 #[.pointer (some ⟨d, 0, none⟩), .int .i64 low] w (DocL w base d (cutB s low) (cut s low)) := by
  obtain ⟨i3, hi3, hz3, hs3, hy3⟩ := info_parts vo_info
  have HI3 := Lib.hid hi3
  have HZ3 := Lib.hid hz3
  have HS3 := Lib.hid hs3
  have HY3i := Lib.hid hy3
  obtain ⟨i4, hi4, hz4, hs4, hy4⟩ := info_parts prep_info
  have HI4 := Lib.hid hi4
  have HZ4 := Lib.hid hz4
  have HS4 := Lib.hid hs4
  have HY4i := Lib.hid hy4
  have H := Lib.hid h
  have HLEN := Lib.hid hlen
  obtain ⟨c0, _, _, _, _, _⟩ := h.cells
  have f0 := h.fz 0
  have ld := h.lt
  obtain ⟨sl, hsl⟩ : ∃ z, z = s.low := ⟨_, rfl⟩
  rw [← hsl] at c0
  have HB : Hid (cutB s low = (decide (sl ≤ low) && decide (low ≤ 1099511627776))) := by show _ = _; rw [hsl]; rfl
  have HPC := Lib.hid (proofs_cut hi low)
  have HNO : Hid (cutB s low = false → DocL w base d (cutB s low) (cut s low) (.returned (.bool false)) w) := fun hf => by
    have e : cut s low = s := by unfold cut; rw [hf]; rfl
    rw [hf, e]
    exact DocL.same H.out
  obtain ⟨b, hb⟩ : ∃ b, b = cutB s low := ⟨_, rfl⟩
  obtain ⟨s', hs'⟩ : ∃ z, z = cut s low := ⟨_, rfl⟩
  have HBS : Hid (b = cutB s low ∧ s' = cut s low) := ⟨hb, hs'⟩
  rw [← hb, ← hs'] at HNO ⊢
  rw [← hb] at HB
  clear h hi hlen hb hs' hsl hi3 hz3 hs3 hy3 hi4 hz4 hs4 hy4
  by_cases h1 : low < sl
  · have HR := Lib.hid (HNO.out (by rw [HB.out, decide_eq_false (by omega : ¬ sl ≤ low), Bool.false_and]))
    clear HB HNO
    go_enter Try.func40, Try.ntmps40
    go_wp2_with fail
    go_ret
    exact HR.out
  · by_cases h2 : 1099511627776 < low
    · have HR := Lib.hid (HNO.out (by rw [HB.out, decide_eq_false (by omega : ¬ low ≤ 1099511627776), Bool.and_false]))
      clear HB HNO
      go_enter Try.func40, Try.ntmps40
      go_wp2_with fail
      go_ret
      exact HR.out
    · have HT : Hid (cutB s low = true) := by show _ = _; rw [← HBS.out.1, HB.out, decide_eq_true (by omega : low ≤ 1099511627776), decide_eq_true (by omega : sl ≤ low)]; rfl
      have HES : Hid (b = true ∧ s' = cutTo s low) := ⟨HBS.out.1.trans HT.out, by rw [HBS.out.2]; unfold cut; rw [HT.out]; rfl⟩
      have hst0 := H.out.storeLow low
      obtain ⟨X1, hX1⟩ : ∃ X, X = w.setCell ⟨d, 0, none⟩ (.int .i64 low) := ⟨_, rfl⟩
      rw [← hX1] at hst0
      obtain ⟨V1, hV1⟩ : ∃ V, V = v := ⟨_, rfl⟩
      rw [← hV1] at hst0
      have HD1 := Lib.hid hst0.1
      have HB1 := Lib.hid hst0.2
      clear HB HNO HT HBS hst0 hV1
      go_enter Try.func40, Try.ntmps40
      go_upto_region 4 with fail
      rw [← hX1]
      clear c0 f0 ld hX1
      have HD1c := HD1.out.cells
      obtain ⟨a1, cap1, hv1, hli1⟩ := HD1.out.lT
      have HK1 := Lib.hid (kept_any a1 cap1 s.acc low X1 hli1 HLEN.out.1)
      obtain ⟨m1, hm1⟩ : ∃ m, m = s.acc.length := ⟨_, rfl⟩
      have hvv1 : V1.T = .slice a1 m1 cap1 := by rw [hm1]; exact hv1
      rw [← hm1] at HK1
      have c1 : X1.cell? ⟨d, 2, none⟩ = some (.slice a1 m1 cap1) := by rw [HD1c.2.2.1, hvv1]
      have ld1 := HD1.out.lt
      clear HD1c hv1 hli1 hm1
      go_wp2_with fail
      refine HK1.out.mono ?_
      rintro e y1 ⟨x1, rfl, hmk1⟩
      have HMK1 := Lib.hid hmk1
      have HY1 := Lib.hid (HD1.out.below hmk1.below)
      obtain ⟨xa1, xc1, rfl, _⟩ := row_form hmk1.row
      clear c1 ld1 hmk1 HK1
      have c1 : y1.cell? ⟨d, 2, none⟩ = some (.slice a1 m1 cap1) := by rw [HY1.out.cells.2.2.1, hvv1]
      have f1 := HY1.out.fz 2
      have ld1 := HY1.out.lt
      have hst1 := HD1.out.storeT HMK1.out.below HMK1.out.row
      obtain ⟨X2, hX2⟩ : ∃ X, X = y1.setCell ⟨d, 2, none⟩ (.slice xa1 (above low s.acc).length xc1) := ⟨_, rfl⟩
      rw [← hX2] at hst1
      obtain ⟨V2, hV2⟩ : ∃ V, V = ({ V1 with T := .slice xa1 (above low s.acc).length xc1 } : Dv) := ⟨_, rfl⟩
      rw [← hV2] at hst1
      have HD2 := Lib.hid hst1.1
      have HB2 : Hid (Bk base w X2) := HB1.out.trans hst1.2
      clear hvv1 hst1 hV2 HY1 HMK1
      go_upto_region 5 with fail
      rw [← hX2]
      clear c1 f1 ld1 hX2
      have HD2c := HD2.out.cells
      obtain ⟨a2, cap2, hv2, hli2⟩ := HD2.out.lD
      have HK2 := Lib.hid (kept_any a2 cap2 s.dec low X2 hli2 HLEN.out.2.1)
      obtain ⟨m2, hm2⟩ : ∃ m, m = s.dec.length := ⟨_, rfl⟩
      have hvv2 : V2.D = .slice a2 m2 cap2 := by rw [hm2]; exact hv2
      rw [← hm2] at HK2
      have c2 : X2.cell? ⟨d, 5, none⟩ = some (.slice a2 m2 cap2) := by rw [HD2c.2.2.2.2.2, hvv2]
      have ld2 := HD2.out.lt
      clear HD2c hv2 hli2 hm2
      go_wp2_with fail
      refine HK2.out.mono ?_
      rintro e y2 ⟨x2, rfl, hmk2⟩
      have HMK2 := Lib.hid hmk2
      have HY2 := Lib.hid (HD2.out.below hmk2.below)
      obtain ⟨xa2, xc2, rfl, _⟩ := row_form hmk2.row
      clear c2 ld2 hmk2 HK2
      have c2 : y2.cell? ⟨d, 5, none⟩ = some (.slice a2 m2 cap2) := by rw [HY2.out.cells.2.2.2.2.2, hvv2]
      have f2 := HY2.out.fz 5
      have ld2 := HY2.out.lt
      have hst2 := HD2.out.storeD HMK2.out.below HMK2.out.row
      obtain ⟨X3, hX3⟩ : ∃ X, X = y2.setCell ⟨d, 5, none⟩ (.slice xa2 (above low s.dec).length xc2) := ⟨_, rfl⟩
      rw [← hX3] at hst2
      obtain ⟨V3, hV3⟩ : ∃ V, V = ({ V2 with D := .slice xa2 (above low s.dec).length xc2 } : Dv) := ⟨_, rfl⟩
      rw [← hV3] at hst2
      have HD3 := Lib.hid hst2.1
      have HB3 : Hid (Bk base w X3) := HB2.out.trans hst2.2
      clear hvv2 hst2 hV3 HY2 HMK2
      go_upto_region 6 with fail
      rw [← hX3]
      clear c2 f2 ld2 hX3
      obtain ⟨a3, cap3, hv3, hli3⟩ := HD3.out.lV
      have HLI3 : Hid (LiesAt X3 a3 4 voL (s.votes)) := hli3
      obtain ⟨m3, hm3⟩ : ∃ m, m = (s.votes).length := ⟨_, rfl⟩
      have hvv3 : V3.V = .slice a3 m3 cap3 := by rw [hm3]; exact hv3
      have HM3 := Lib.hid hm3
      have hm93 : (m3 : Int) ≤ 10000 := by have := HLEN.out.2.2.1; omega
      have HC3 : Hid (∀ X, Below X3.heap.size X3 X → X.cell? ⟨d, 3, none⟩ = some (.slice a3 m3 cap3) ∧ d < X.heap.size ∧ X.frozen? ⟨d, 3, none⟩ = false) := fun X hX => by
        have h := HD3.out.below hX
        have c := h.cells.2.2.2.1
        rw [hvv3] at c
        exact ⟨c, h.lt, h.fz 3⟩
      have P3 : Hid (MkRel voL 76 4 X3 (aboveV low ((s.votes).take 0)) (.slice none 0 0) X3) := ⟨World.ownsRow_nil _ _ _ _, Below.refl _ _⟩
      clear hvv3 hv3 hli3 hm3
      obtain ⟨c3, ld3, f3⟩ := HC3.out _ (Below.refl _ _)
      go_wp2_with fail
      clear c3 ld3 f3
      go_loopw [5, 6] (fun v i wr => ∃ j : Nat, j ≤ m3 ∧ i = .int .i64 j ∧ Hid (MkRel voL 76 4 X3 (aboveV low ((s.votes).take j)) v wr)) (fun _ i _ => m3 - (intOf i).toNat)
      case atStart => exact ⟨0, by omega, rfl, P3⟩
      case round =>
        clear P3
        obtain ⟨j, hj, rfl, HJ⟩ := hrel
        obtain ⟨c3, ld3, f3⟩ := HC3.out _ HJ.out.below
        by_cases hlt : j < m3
        · obtain ⟨⟨⟨xk, xn, xw⟩, xd⟩, hx⟩ : ∃ x, (s.votes)[j]? = some x := ⟨_, List.getElem?_eq_getElem (by rw [← HM3.out]; exact hlt)⟩
          obtain ⟨g, o, rfl, lg, hc⟩ := (HLI3.out.below HJ.out.below) j _ hx
          have d0 : wr.cell? ⟨g, o + j * 4, none⟩ = some (.int .i64 xk) := hc 0 _ rfl
          have d1 : wr.cell? ⟨g, o + j * 4 + 1, none⟩ = some (.int .i64 xn) := hc 1 _ rfl
          have d2 : wr.cell? ⟨g, o + j * 4 + 2, none⟩ = some (.int .i64 xw) := hc 2 _ rfl
          have d3 : wr.cell? ⟨g, o + j * 4 + 3, none⟩ = some (.int .i64 xd) := hc 3 _ rfl
          have HST := Lib.hid (aboveV_take hx low)
          have HLE : Hid ((aboveV low ((s.votes).take j)).length ≤ j) := by
            show _ ≤ _
            have : (aboveV low ((s.votes).take j)).length ≤ ((s.votes).take j).length := List.length_filter_le _ _
            rw [List.length_take] at this
            omega
          have hj0 : (0 : Int) ≤ (j : Int) := by omega
          have hj1 : (j : Int) < (m3 : Int) := by omega
          have hjs : j + 1 ≤ m3 := hlt
          clear hx hc lg
          by_cases h1 : low < xn
          · have hst : aboveV low ((s.votes).take (j + 1)) = aboveV low ((s.votes).take j) ++ [((xk, xn, xw), xd)] := by rw [HST.out, if_pos h1]
            have HNE := Lib.hid hst
            clear hst
            go_upto_region 11 with fail
            go_wp2_with (at_builtin; refine wpList_append_own _ rfl _ _ 48 rfl X3.heap.size 76 i3 _ 4 32 Try.underlying48 HI3.out HZ3.out HS3.out HY3i.out rfl (by decide) _ _ _ rfl (HJ.out.row.alloc _) ⟨wr.heap.size, 0, none⟩ 1 1 (voL ((xk, xn, xw), xd)) rfl rfl (vo_cells wr ((xk, xn, xw), xd) 76) (vo_one ((xk, xn, xw), xd)) (by have := HLE.out; unfold maxLen; omega) (by have := HLE.out; omega) (by have := HJ.out.below.size; simp; omega) ?_)
            intro v1 w3 hown hg _
            have HNX : Hid (MkRel voL 76 4 X3 (aboveV low ((s.votes).take (j + 1))) v1 w3) := by
              show MkRel _ _ _ _ _ _ _
              rw [HNE.out]
              exact HJ.out.next _ hown hg
            clear hown hg c3 ld3 f3
            go_wp2_with fail
            exact ⟨⟨j + 1, hjs, by simp, HNX⟩, by simp [intOf]; omega⟩
          · have HNX : Hid (MkRel voL 76 4 X3 (aboveV low ((s.votes).take (j + 1))) u5 wr) := by
              show MkRel _ _ _ _ _ _ _
              rw [HST.out, if_neg h1]
              exact HJ.out
            go_wp2_with fail
            exact ⟨⟨j + 1, hjs, by simp, HNX⟩, by simp [intOf]; omega⟩
        · obtain rfl : m3 = j := by omega
          have HE : Hid (MkRel voL 76 4 X3 (aboveV low (s.votes)) u5 wr) := by
            have h := HJ.out
            rw [List.take_of_length_le (by rw [← HM3.out]; exact Nat.le_refl _)] at h
            exact h
          obtain ⟨xa3, xc3, rfl, _⟩ := row_form HE.out.row
          have hst3 := HD3.out.storeV HE.out.below HE.out.row
          obtain ⟨X4, hX4⟩ : ∃ X, X = wr.setCell ⟨d, 3, none⟩ (.slice xa3 (aboveV low s.votes).length xc3) := ⟨_, rfl⟩
          rw [← hX4] at hst3
          obtain ⟨V4, hV4⟩ : ∃ V, V = ({ V3 with V := .slice xa3 (aboveV low s.votes).length xc3 } : Dv) := ⟨_, rfl⟩
          rw [← hV4] at hst3
          have HD4 := Lib.hid hst3.1
          have HB4 : Hid (Bk base w X4) := HB3.out.trans hst3.2
          clear hst3 hV4 hlt HJ
          go_upto_region 13 with fail
          rw [← hX4]
          clear c3 f3 ld3 hX4
          obtain ⟨a4, cap4, hv4, hli4⟩ := HD4.out.lP
          have HLI4 : Hid (LiesAt X4 a4 6 prepL (proofsL s)) := hli4
          obtain ⟨m4, hm4⟩ : ∃ m, m = (proofsL s).length := ⟨_, rfl⟩
          have hvv4 : V4.P = .slice a4 m4 cap4 := by rw [hm4]; exact hv4
          have HM4 := Lib.hid hm4
          have hm94 : (m4 : Int) ≤ 10000 := by have := HLEN.out.2.2.2; omega
          have HC4 : Hid (∀ X, Below X4.heap.size X4 X → X.cell? ⟨d, 4, none⟩ = some (.slice a4 m4 cap4) ∧ d < X.heap.size ∧ X.frozen? ⟨d, 4, none⟩ = false) := fun X hX => by
            have h := HD4.out.below hX
            have c := h.cells.2.2.2.2.1
            rw [hvv4] at c
            exact ⟨c, h.lt, h.fz 4⟩
          have P4 : Hid (MkRel prepL 44 6 X4 (aboveP low ((proofsL s).take 0)) (.slice none 0 0) X4) := ⟨World.ownsRow_nil _ _ _ _, Below.refl _ _⟩
          clear hvv4 hv4 hli4 hm4
          obtain ⟨c4, ld4, f4⟩ := HC4.out _ (Below.refl _ _)
          go_wp2_with fail
          clear c4 ld4 f4
          go_loopw [7, 8] (fun v i wr => ∃ j : Nat, j ≤ m4 ∧ i = .int .i64 j ∧ Hid (MkRel prepL 44 6 X4 (aboveP low ((proofsL s).take j)) v wr)) (fun _ i _ => m4 - (intOf i).toNat)
          case atStart => exact ⟨0, by omega, rfl, P4⟩
          case round =>
            clear P4
            obtain ⟨j, hj, rfl, HJ⟩ := hrel
            obtain ⟨c4, ld4, f4⟩ := HC4.out _ HJ.out.below
            by_cases hlt : j < m4
            · obtain ⟨⟨xn, xv, xd⟩, hx⟩ : ∃ x, (proofsL s)[j]? = some x := ⟨_, List.getElem?_eq_getElem (by rw [← HM4.out]; exact hlt)⟩
              obtain ⟨g, o, rfl, lg, hc⟩ := (HLI4.out.below HJ.out.below) j _ hx
              have d0 : wr.cell? ⟨g, o + j * 6, none⟩ = some (.int .i64 xn) := hc 0 _ rfl
              have d1 : wr.cell? ⟨g, o + j * 6 + 1, none⟩ = some (.int .i64 xv) := hc 1 _ rfl
              have d2 : wr.cell? ⟨g, o + j * 6 + 2, none⟩ = some (.int .i64 xd) := hc 2 _ rfl
              have d3 : wr.cell? ⟨g, o + j * 6 + 3, none⟩ = some (.int .i64 0) := hc 3 _ rfl
              have d4 : wr.cell? ⟨g, o + j * 6 + 4, none⟩ = some (.int .i64 0) := hc 4 _ rfl
              have d5 : wr.cell? ⟨g, o + j * 6 + 5, none⟩ = some (.slice none 0 0) := hc 5 _ rfl
              have HST := Lib.hid (aboveP_take hx low)
              have HLE : Hid ((aboveP low ((proofsL s).take j)).length ≤ j) := by
                show _ ≤ _
                have : (aboveP low ((proofsL s).take j)).length ≤ ((proofsL s).take j).length := List.length_filter_le _ _
                rw [List.length_take] at this
                omega
              have hj0 : (0 : Int) ≤ (j : Int) := by omega
              have hj1 : (j : Int) < (m4 : Int) := by omega
              have hjs : j + 1 ≤ m4 := hlt
              clear hx hc lg
              by_cases h1 : low < xn
              · have hst : aboveP low ((proofsL s).take (j + 1)) = aboveP low ((proofsL s).take j) ++ [(xn, xv, xd)] := by rw [HST.out, if_pos h1]
                have HNE := Lib.hid hst
                clear hst
                go_upto_region 18 with fail
                go_wp2_with (at_builtin; refine wpList_append_own _ rfl _ _ 38 rfl X4.heap.size 44 i4 _ 6 64 Try.underlying38 HI4.out HZ4.out HS4.out HY4i.out rfl (by decide) _ _ _ rfl (HJ.out.row.alloc _) ⟨wr.heap.size, 0, none⟩ 1 1 (prepL (xn, xv, xd)) rfl rfl (prep_cells wr (xn, xv, xd) 44) (prep_one (xn, xv, xd)) (by have := HLE.out; unfold maxLen; omega) (by have := HLE.out; omega) (by have := HJ.out.below.size; simp; omega) ?_)
                intro v1 w3 hown hg _
                have HNX : Hid (MkRel prepL 44 6 X4 (aboveP low ((proofsL s).take (j + 1))) v1 w3) := by
                  show MkRel _ _ _ _ _ _ _
                  rw [HNE.out]
                  exact HJ.out.next _ hown hg
                clear hown hg c4 ld4 f4
                go_wp2_with fail
                exact ⟨⟨j + 1, hjs, by simp, HNX⟩, by simp [intOf]; omega⟩
              · have HNX : Hid (MkRel prepL 44 6 X4 (aboveP low ((proofsL s).take (j + 1))) u7 wr) := by
                  show MkRel _ _ _ _ _ _ _
                  rw [HST.out, if_neg h1]
                  exact HJ.out
                go_wp2_with fail
                exact ⟨⟨j + 1, hjs, by simp, HNX⟩, by simp [intOf]; omega⟩
            · obtain rfl : m4 = j := by omega
              have HE : Hid (MkRel prepL 44 6 X4 (aboveP low (proofsL s)) u7 wr) := by
                have h := HJ.out
                rw [List.take_of_length_le (by rw [← HM4.out]; exact Nat.le_refl _)] at h
                exact h
              obtain ⟨xa4, xc4, rfl, _⟩ := row_form HE.out.row
              have hst4 := DocAt.storeP (s := ⟨low, s.view, above low s.acc, above low s.dec, aboveV low s.votes, s.proofs⟩) (q := above low s.proofs) HPC.out HD4.out HE.out.below HE.out.row
              have HDL : Hid (DocL w base d b s' (.returned (.bool true)) (wr.setCell ⟨d, 4, none⟩ (.slice xa4 (aboveP low (proofsL s)).length xc4))) := by
                refine ⟨by rw [HES.out.1], ⟨_, by rw [HES.out.2]; exact hst4.1⟩, HB4.out.trans hst4.2⟩
              clear hst4
              go_wp2_with fail
              go_ret
              exact HDL.out
end Go.Proofs.Ytelmgaaofighpaa
