/- BookTells: the two books side by side. -/
import Derived.Test.YtmpbeopbkllcnaaDoorBkArgs
namespace Go.Proofs.YtmpbeopbkllcnaaDoor.Book
open Go.RowKit Go.My

theorem bl_trans {A B C : World} (h : Below A.heap.size A B) (k : Below B.heap.size B C) : Below A.heap.size A C := h.trans (k.mono h.size)
theorem bl_alloc (B : World) (o : Obj) : Below B.heap.size B (B.alloc o) := (Below.refl _ B).alloc (Nat.le_refl _) o
theorem bl_drew (B : World) : Below B.heap.size B B.drew := ⟨rfl, rfl, rfl, Nat.le_refl _, fun _ _ => rfl⟩
theorem BookAt.other {w w' : World} {base b m : Nat} {v : Value} {ts : List ByteArray} {S : List Nat} (h : BookAt w base b m v ts) (hw : Wrote S w w')
    (hS : ∀ k ∈ S, ∃ cur t, w.heap[k]? = some (.cells cur t (0, 0)) ∧ t ≠ 110 ∧ t ≠ 9) : BookAt w' base b m v ts := by
  refine ⟨hw.heap h.blk fun hm => ?_, h.map.touch hw fun hm => ?_, row_wrote h.row hw fun g hg hm => ?_, h.bb, h.bm, h.nb⟩
  · obtain ⟨cur, t, h1, h2, _⟩ := hS _ hm
    rw [h.blk] at h1
    cases h1
    exact h2 rfl
  · obtain ⟨cur, t, h1, _⟩ := hS _ hm
    exact h.map.ne_cells h1 rfl
  · obtain ⟨cur, t, h1, _, h2⟩ := hS _ hm
    obtain ⟨_, cur', hc⟩ := row_block h.row hg
    rw [hc] at h1
    cases h1
    exact h2 rfl
/-- what Digest writes is none of the document's, and no bytes -/
theorem book_blocks {w : World} {base b m : Nat} {v : Value} {ts : List ByteArray} (h : BookAt w base b m v ts) : ∀ k ∈ b :: m :: v.ownBlock.toList, ∀ cur t, w.heap[k]? = some (.cells cur t (0, 0)) → t = 110 ∨ t = 9 := by
  intro k hk cur t hc
  rcases List.mem_cons.1 hk with rfl | hk
  · rw [h.blk] at hc; cases hc; exact .inl rfl
  rcases List.mem_cons.1 hk with rfl | hk
  · exact absurd rfl (h.map.ne_cells hc)
  · obtain ⟨_, cur', hc'⟩ := row_block h.row (by simpa using hk)
    rw [hc'] at hc; cases hc; exact .inr rfl
structure OwnB (W : World) (g n : Nat) : Prop where
  blk : ∃ cur, W.heap[g]? = some (.cells cur 5 (0, 0)) ∧ ∀ i, i < n → ∃ x : Int, cur[i]? = some (.int .u8 x)
theorem OwnB.at {W : World} {g n : Nat} (h : OwnB W g n) {i : Nat} (hi : i < n) : ∃ x : Int, W.cell? ⟨g, i, none⟩ = some (.int .u8 x) ∧ W.frozen? ⟨g, i, none⟩ = false := by
  obtain ⟨cur, h1, h2⟩ := h.blk
  obtain ⟨x, hx⟩ := h2 i hi
  exact ⟨x, by rw [cell_of_row _ _ _ _ _ _ h1]; exact hx, by simp [World.frozen?, h1]⟩
theorem OwnB.set {W : World} {g n : Nat} (h : OwnB W g n) (k : Nat) (y : Int) : OwnB (W.setCell ⟨g, k, none⟩ (.int .u8 y)) g n := by
  obtain ⟨cur, h1, h2⟩ := h.blk
  refine ⟨_, heap_setCell_same _ g k _ _ _ h1, fun i hi => ?_⟩
  obtain ⟨x, hx⟩ := h2 i hi
  by_cases e : k = i
  · subst e
    have := (Array.getElem?_eq_some_iff.1 hx).1
    exact ⟨y, by simp [this]⟩
  · exact ⟨x, by simpa [Array.getElem?_setIfInBounds, e] using hx⟩
theorem OwnB.of_row {W : World} {base g n cap : Nat} {s : ByteArray} (h : W.ownsRow base 5 1 (.slice (some ⟨g, 0, none⟩) n cap) n (bvals s)) (hn : n = s.size) : OwnB W g n := by
  rcases h.2 with ⟨h', _⟩ | ⟨g', cap', cur, h', _, hg, _, _, _, ht⟩
  · simp at h'
  · obtain ⟨rfl, rfl⟩ : g = g' ∧ cap = cap' := by simpa using h'
    refine ⟨cur, hg, fun i hi => ⟨((s[i]'(by omega)).toNat : Int), ?_⟩⟩
    have h1 := bvals_get s i (by omega)
    rw [← ht, List.getElem?_take] at h1
    rw [if_pos (by omega)] at h1
    simpa using h1
theorem OwnB.wrote {W W' : World} {g n : Nat} {S : List Nat} (h : OwnB W g n) (hw : Wrote S W W') (hS : g ∉ S) : OwnB W' g n := by
  obtain ⟨cur, h1, h2⟩ := h.blk
  exact ⟨cur, hw.heap h1 hS, h2⟩
/-- between the calls of a round -/
structure BkIn (w : World) (base b m d g n : Nat) (tb tr : List ByteArray) (W : World) : Prop where
  book : ∃ v, BookAt W base b m v tb
  doc : ∃ v, RbAt W base d (some g) v tr
  own : OwnB W g n
  below : Below w.heap.size w W
  g0 : w.heap.size ≤ g
  w0 : w.heap.size ≤ base
  size : base ≤ W.heap.size
structure BkSt (w : World) (base b m d : Nat) (ts : List ByteArray) (W : World) : Prop where
  book : ∃ v, BookAt W base b m v ts
  doc : ∃ v, RbAt W base d none v ts
  below : Below w.heap.size w W
  w0 : w.heap.size ≤ base
  size : base ≤ W.heap.size
theorem BkSt.keep {w W W' : World} {base b m d : Nat} {ts : List ByteArray} (h : BkSt w base b m d ts W) (hb : Below W.heap.size W W') : BkSt w base b m d ts W' := by
  obtain ⟨⟨v, h1⟩, ⟨u, h2⟩, h3, h4, h5⟩ := h
  exact ⟨⟨v, h1.below hb⟩, ⟨u, h2.below hb⟩, h3.trans (hb.mono h3.size), h4, Nat.le_trans h5 hb.size⟩
theorem BkIn.keep {w W W' : World} {base b m d g n : Nat} {tb tr : List ByteArray} (h : BkIn w base b m d g n tb tr W) (hb : Below W.heap.size W W') : BkIn w base b m d g n tb tr W' := by
  obtain ⟨⟨v, h1⟩, ⟨u, h2⟩, h3, h4, h5, h6, h7⟩ := h
  exact ⟨⟨v, h1.below hb⟩, ⟨u, h2.below hb⟩, h3.wrote (Wrote.of_below (S := []) hb) (by simp), h4.trans (hb.mono h4.size), h5, h6, Nat.le_trans h7 hb.size⟩
theorem BkIn.out {w W : World} {base b m d g n : Nat} {ts : List ByteArray} (h : BkIn w base b m d g n ts ts W) : BkSt w base b m d ts W := by
  obtain ⟨h1, ⟨u, h2⟩, _, h4, _, h6, h7⟩ := h
  exact ⟨h1, ⟨u, h2.drop⟩, h4, h6, h7⟩
theorem BkIn.set {w W : World} {base b m d g n : Nat} {tb tr : List ByteArray} (h : BkIn w base b m d g n tb tr W) (k : Nat) (y : Int) : BkIn w base b m d g n tb tr (W.setCell ⟨g, k, none⟩ (.int .u8 y)) := by
  obtain ⟨⟨v, h1⟩, ⟨u, h2⟩, h3, h4, h5, h6, h7⟩ := h
  obtain ⟨cur, hc, _⟩ := h3.blk
  have hw : Wrote [g] W (W.setCell ⟨g, k, none⟩ (.int .u8 y)) := (Wrote.refl [g] W).setCell (.inl (List.mem_singleton.2 rfl)) _
  have hg : ∀ k ∈ [g], k = g := fun k hk => by simpa using hk
  refine ⟨⟨v, h1.other hw fun k hk => ?_⟩, ⟨u, h2.wrote hw (fun k hk => .inl (by rw [hg k hk])) fun k hk cur' t hc' => ?_⟩, h3.set k y, h4.trans (hw.below h4.size fun k hk => by rw [hg k hk]; exact h5), h5, h6, Nat.le_trans h7 hw.size⟩
  · rw [hg k hk]
    exact ⟨cur, 5, hc, by decide, by decide⟩
  · rw [hg k hk, hc] at hc'
    cases hc'
    exact ⟨by decide, by decide⟩
theorem BkSt.into {w W W1 : World} {base b m d g n cap : Nat} {ts : List ByteArray} {s : ByteArray} (h : BkSt w base b m d ts W) (hb : Below W.heap.size W W1) (hown : W1.ownsRow W.heap.size 5 1 (.slice (some ⟨g, 0, none⟩) n cap) n (bvals s)) (hn : n = s.size) : BkIn w base b m d g n ts ts W1 := by
  obtain ⟨⟨v, h1⟩, ⟨u, h2⟩, h3, h4, h5⟩ := h
  have hg := (row_block hown (g := g) rfl).1
  exact ⟨⟨v, h1.below hb⟩, ⟨u, h2.fresh hg hb⟩, OwnB.of_row hown hn, h3.trans (hb.mono h3.size), Nat.le_trans h3.size hg, h4, Nat.le_trans h5 hb.size⟩
theorem in_dig {w W : World} {base b m d g n : Nat} {ts tr : List ByteArray} {s : ByteArray} (h : BkIn w base b m d g n ts tr W) (hB : Lib.Bytes W g 0 s) (hs : s.size ≤ 65536) (hl : ts.length ≤ 1000) (cap : Nat) :
    Calls Tryd.prog 22 #[.pointer (some ⟨b, 0, none⟩), .slice (some ⟨g, 0, none⟩) s.size cap] W fun e W' => e = .returned (.tuple #[.int .i64 (placeOf ts s : Nat), .nilIface]) ∧ BkIn w base b m d g n (asked ts s) tr W' := by
  obtain ⟨⟨v, h1⟩, ⟨u, h2⟩, h3, h4, h5, h6, h7⟩ := h
  obtain ⟨cur, hc, hcs⟩ := h3.blk
  have hbb := book_blocks h1
  have hgS : g ∉ b :: m :: v.ownBlock.toList := fun hm => by
    rcases hbb g hm cur 5 hc with e | e <;> cases e
  refine (dig_any h1 g 0 cap s hs (by omega) h7 hB (lt_of_heap hc) (fun e => hgS (by simp [e])) (fun e => hgS (by simp [e]))).mono ?_
  rintro e W' ⟨v', he, hb', ht⟩
  refine ⟨he, ⟨v', hb'⟩, ⟨u, h2.wrote ht.wrote (fun k hk => .inr fun c hc' => ?_) fun k hk c t hc' => ?_⟩, h3.wrote ht.wrote hgS, ?_, h5, h6, Nat.le_trans h7 ht.wrote.size⟩
  · rcases hbb k hk c 5 hc' with e | e <;> cases e
  · rcases hbb k hk c t hc' with rfl | rfl <;> exact ⟨by decide, by decide⟩
  · exact h4.trans (ht.below.mono h6)
theorem in_dig_long {w W : World} {base b m d g n : Nat} {ts tr : List ByteArray} (h : BkIn w base b m d g n ts tr W) (sa : Option Addr) (sl cap : Nat) (hs : 65536 < sl) :
    Calls Tryd.prog 22 #[.pointer (some ⟨b, 0, none⟩), .slice sa sl cap] W fun e W' => e = .returned (.tuple #[.int .i64 (-1), wrapV (ts.length : Nat) 2]) ∧ BkIn w base b m d g n ts tr W' := by
  obtain ⟨v, h1⟩ := h.book
  refine (dig_long h1 sa sl cap hs).mono ?_
  rintro e W' ⟨he, hb⟩
  exact ⟨he, h.keep hb⟩
theorem in_rdig {w W : World} {base b m d g n : Nat} {tb tr : List ByteArray} {s : ByteArray} (h : BkIn w base b m d g n tb tr W) (hn : tr.Nodup) (hl : tr.length ≤ 1000) (sa : Option Addr) (sc : Nat) (hs : s.size ≤ 65536) (hsrc : BSrc W sa sc s) :
    Calls Tryd.prog 23 #[.pointer (some ⟨d, 0, none⟩), .slice sa s.size sc] W fun e W' => e = .returned (.tuple #[.int .i64 (placeOf tr s : Nat), .int .i64 0]) ∧ BkIn w base b m d g n tb (asked tr s) W' := by
  obtain ⟨⟨v, h1⟩, ⟨u, h2⟩, h3, h4, h5, h6, h7⟩ := h
  obtain ⟨cur, hc, hcs⟩ := h3.blk
  obtain ⟨vs, hrow, _⟩ := h2.row
  have hT : ∀ k ∈ d :: u.ownBlock.toList, ∃ cur t, W.heap[k]? = some (.cells cur t (0, 0)) ∧ (t = 55 ∨ t = 56) ∧ base ≤ k := fun k hk => by
    rcases List.mem_cons.1 hk with rfl | hk
    · exact ⟨_, _, h2.blk, .inl rfl, h2.bd⟩
    · obtain ⟨hge, cur', hc'⟩ := row_block hrow (by simpa using hk)
      exact ⟨_, _, hc', .inr rfl, hge⟩
  refine (rdig_any h2 hn hl sa s sc hs hsrc (fun y e => by cases e; exact lt_of_heap hc) h7).mono ?_
  rintro e W' ⟨he, v', hr', hw⟩
  refine ⟨he, ⟨v, h1.other hw fun k hk => ?_⟩, ⟨v', hr'⟩, h3.wrote hw fun hm => ?_, h4.trans (hw.below h4.size fun k hk => ?_), h5, h6, Nat.le_trans h7 hw.size⟩
  · obtain ⟨cur, t, h1, h2, _⟩ := hT k hk
    exact ⟨cur, t, h1, by rcases h2 with rfl | rfl <;> decide, by rcases h2 with rfl | rfl <;> decide⟩
  · obtain ⟨cur', t, hc', ht, _⟩ := hT g hm
    rw [hc] at hc'
    cases hc'
    rcases ht with e | e <;> cases e
  · obtain ⟨_, _, _, _, hge⟩ := hT k hk
    omega
theorem in_rdig_long {w W : World} {base b m d g n : Nat} {tb tr : List ByteArray} (h : BkIn w base b m d g n tb tr W) (sa : Option Addr) (sl sc : Nat) (hs : 65536 < sl) :
    Calls Tryd.prog 23 #[.pointer (some ⟨d, 0, none⟩), .slice sa sl sc] W fun e W' => e = .returned (.tuple #[.int .i64 (-1), .int .i64 2]) ∧ BkIn w base b m d g n tb tr W' := by
  obtain ⟨u, h2⟩ := h.doc
  refine (rdig_long h2 sa sl sc hs).mono ?_
  rintro e W' ⟨he, hb⟩
  exact ⟨he, h.keep hb⟩
end Go.Proofs.YtmpbeopbkllcnaaDoor.Book
