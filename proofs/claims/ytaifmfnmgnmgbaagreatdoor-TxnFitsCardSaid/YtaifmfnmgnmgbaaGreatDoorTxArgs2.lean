/- Txn: entries handed in; a store beside a transaction's box. -/
import Derived.Test.YtaifmfnmgnmgbaaGreatDoorTxArgs
namespace Go.Proofs.YtaifmfnmgnmgbaaGreatDoor.Txn
open Go.RowKit Go.My Go.Deep
theorem three3 {α : Type} : ∀ {l : List α}, l.length = 3 → ∃ a b c, l = [a, b, c]
  | [a, b, c], _ => ⟨a, b, c, rfl⟩
/-- so many entries as memory holds -/
def Good (L : List Ent) : Prop := (L.length : Int) ≤ 70368744177664 ∧ ∀ e ∈ L, e.key.size ≤ maxLen ∧ e.value.size ≤ maxLen
section
variable {H : Type} {enc : TypeId × Value → H} {w : World} {base : Nat} {spare : Nat → Bool} {held : Bool}
set_option maxRecDepth 100000 in
theorem open_first {fuel len cap : Nat} {a : Option Addr} {x : DataW H × List MemPlace} (h : DataW.trod enc Tryz.prog w base spare held fuel 38 [.slice a len cap] = some x) (hx : Within Tryz.prog 38 x.1) :
    ∃ L : List Ent, L.length = len ∧ SrcAny w a cap L ∧ Good L := by
  have hnil : a = none → cap = 0 := by
    obtain ⟨a', n', c', e, hh⟩ := slice_of Tryz.underlying38 h
    cases e
    exact hh
  obtain ⟨L, h1, h4, h5, h2, h3⟩ := open_listB (R := fun _ cs (e : Ent) => cs = entL e ∧ e.key.size ≤ maxLen ∧ e.value.size ≤ maxLen) (c := 3) Tryz.underlying38 (by kernel_rfl) (by omega) (fun n cs d hl hd _ => by
    obtain ⟨v0, v1, v2, rfl⟩ := three3 hl
    have hone : oneCellFields Tryz.prog (Tryz.prog.fieldsOf 42) = true := by kernel_rfl
    have hfs : Tryz.prog.underlying 42 = some (.struct (Tryz.prog.fieldsOf 42)) := by kernel_rfl
    obtain ⟨z0, rfl, s0⟩ := field_string hfs hone hd 0 _ v0 rfl rfl (by kernel_rfl)
    obtain ⟨z1, rfl, s1⟩ := field_string hfs hone hd 1 _ v1 rfl rfl (by kernel_rfl)
    obtain ⟨z2, rfl, _⟩ := field_int (k := .i64) hfs hone hd 2 _ v2 rfl rfl (by kernel_rfl)
    exact ⟨⟨z0, z1, z2⟩, rfl, s0, s1⟩) h hx
  have hb : Tryz.prog.bytesOf 42 = 40 := by kernel_rfl
  rw [hb] at h2
  unfold reachBytes at h2
  refine ⟨L, h1, ⟨fun i e hi => ?_, hnil, by omega, h5⟩, by omega, fun e he => ?_⟩
  · obtain ⟨b, off, cs, p1, p2, p3, p4, rfl, _⟩ := h3 i e hi
    exact ⟨b, off, p1, p2, p4⟩
  · obtain ⟨i, hi⟩ := List.getElem?_of_mem he
    obtain ⟨_, _, _, _, _, _, _, _, p5⟩ := h3 i e hi
    exact p5
end
/-- a transaction's box, and a store beside it -/
structure Box (X : World) (q : Nat) (cl num : Int) (ra : Option Addr) (rn rc : Nat) (wa : Option Addr) (wn wc : Nat) : Prop where
  cell : X.heap[q]? = some (.cells #[.int .i64 cl, .int .i64 num, .slice ra rn rc, .slice wa wn wc] 25 (0, 0))
section
variable {X Y : World} {q : Nat} {cl num : Int} {ra : Option Addr} {rn rc : Nat} {wa : Option Addr} {wn wc : Nat}
theorem Box.below (h : Box X q cl num ra rn rc wa wn wc) (hb : Below X.heap.size X Y) : Box Y q cl num ra rn rc wa wn wc := ⟨(hb.block _ (lt_of_heap h.cell)).trans h.cell⟩
theorem Box.lt (h : Box X q cl num ra rn rc wa wn wc) : q < X.heap.size := lt_of_heap h.cell
theorem Box.fz (h : Box X q cl num ra rn rc wa wn wc) (k : Nat) : X.frozen? ⟨q, k, none⟩ = false := by
  unfold World.frozen?
  rw [h.cell]
  simp
theorem Box.cells (h : Box X q cl num ra rn rc wa wn wc) : X.cell? ⟨q, 0, none⟩ = some (.int .i64 cl) ∧ X.cell? ⟨q, 1, none⟩ = some (.int .i64 num) ∧ X.cell? ⟨q, 2, none⟩ = some (.slice ra rn rc) ∧ X.cell? ⟨q, 3, none⟩ = some (.slice wa wn wc) :=
  ⟨by rw [cell_of_row _ _ _ _ _ _ h.cell]; rfl, by rw [cell_of_row _ _ _ _ _ _ h.cell]; rfl, by rw [cell_of_row _ _ _ _ _ _ h.cell]; rfl, by rw [cell_of_row _ _ _ _ _ _ h.cell]; rfl⟩
theorem Box.set (h : Box X q cl num ra rn rc wa wn wc) (a : Option Addr) (n c : Nat) : Box (X.setCell ⟨q, 2, none⟩ (.slice a n c)) q cl num a n c wa wn wc := ⟨by
  have := heap_setCell_same X q 2 _ _ (.slice a n c) h.cell
  exact this⟩
theorem Box.wrote (X : World) (q : Nat) (v : Value) : Wrote [q] X (X.setCell ⟨q, 2, none⟩ v) := (Wrote.refl _ _).setCell (.inl (by simp)) _
theorem Box.ne (h : Box X q cl num ra rn rc wa wn wc) {g k : Nat} {s : ByteArray} (hc : X.cell? ⟨g, k, none⟩ = some (.string s)) : g ≠ q := by
  rintro rfl
  rw [cell_of_row _ _ _ _ _ _ h.cell] at hc
  match k with
  | 0 => simp at hc
  | 1 => simp at hc
  | 2 => simp at hc
  | 3 => simp at hc
  | k + 4 => simp at hc
theorem Box.store (h : Box X q cl num ra rn rc wa wn wc) {p : Nat} {a : Option Addr} {cap : Nat} {L : List Ent} (hs : StoreAt X p a cap L) (hw : Wrote [q] X Y) : StoreAt Y p a cap L := by
  have hpq : p ≠ q := by
    rintro rfl
    have := hs.cell
    rw [h.cell] at this
    cases this
  refine ⟨(hw.block p (lt_of_heap hs.cell) (by simpa using hpq)).trans hs.cell, ⟨fun i x hi => ?_, hs.src.nil, hs.src.some, hs.src.room, hs.src.max⟩, hs.up⟩
  obtain ⟨g, o, e, hg, hc⟩ := hs.src.lies i x hi
  have hne : g ≠ q := h.ne (hc 0 _ rfl)
  refine ⟨g, o, e, Nat.lt_of_lt_of_le hg hw.size, fun j v hj => ?_⟩
  rw [Wrote.cell hw (p := ⟨g, _, none⟩) hg (by simpa using hne)]
  exact hc j v hj
theorem Box.lies (h : Box X q cl num ra rn rc wa wn wc) {b : Option Addr} {l : List ByteArray} (hl : LiesAt X b 1 strL l) (hw : Wrote [q] X Y) : LiesAt Y b 1 strL l := fun i x hi => by
  obtain ⟨g, o, e, hg, hc⟩ := hl i x hi
  have hne : g ≠ q := h.ne (hc 0 _ rfl)
  refine ⟨g, o, e, Nat.lt_of_lt_of_le hg hw.size, fun j v hj => ?_⟩
  rw [Wrote.cell hw (p := ⟨g, _, none⟩) hg (by simpa using hne)]
  exact hc j v hj
theorem Box.wr (h : Box X q cl num ra rn rc wa wn wc) {b : Option Addr} {l : List Wr} (hl : LiesAt X b 2 wrL l) (hw : Wrote [q] X Y) : LiesAt Y b 2 wrL l := fun i x hi => by
  obtain ⟨g, o, e, hg, hc⟩ := hl i x hi
  have hne : g ≠ q := h.ne (hc 0 _ rfl)
  refine ⟨g, o, e, Nat.lt_of_lt_of_le hg hw.size, fun j v hj => ?_⟩
  rw [Wrote.cell hw (p := ⟨g, _, none⟩) hg (by simpa using hne)]
  exact hc j v hj
end
/-! ### plain -/
theorem hasB_iff {l : List ByteArray} {k : ByteArray} : hasB l k = true ↔ k ∈ l := by
  unfold hasB
  simp
theorem fits_nil {L : List Ent} {cl num : Int} {M : List Wr} {K : List ByteArray} (hL : L.length ≤ 90) (hM : M.length ≤ 20) : fitsT L ⟨cl, num, [], M⟩ K = true := by
  have h1 : moreT L (M.filter (pRWr K)) ≤ 20 := Nat.le_trans List.countP_le_length (Nat.le_trans (List.length_filter_le _ _) hM)
  unfold fitsT
  simp only [List.filter_nil, List.all_nil, Bool.true_and, decide_eq_true_eq]
  omega
theorem fits_one {L : List Ent} {cl num : Int} {k : ByteArray} {v : Int} {M : List Wr} {K : List ByteArray} (hL : L.length ≤ 90) (hM : M.length ≤ 20) (hk : k ∈ K) : fitsT L ⟨cl, num, [⟨k, v⟩], M⟩ K = decide (oldV L k = v) := by
  have h1 : moreT L (M.filter (pRWr K)) ≤ 20 := Nat.le_trans List.countP_le_length (Nat.le_trans (List.length_filter_le _ _) hM)
  have h2 : pRRd K ⟨k, v⟩ = true := hasB_iff.2 hk
  have h3 : decide ((moreT L (M.filter (pRWr K)) : Int) ≤ 128 - (L.length : Int)) = true := decide_eq_true (by omega)
  unfold fitsT
  simp only [List.filter_cons, h2, List.filter_nil, if_true, List.all_cons, List.all_nil, Bool.and_true]
  rw [h3, Bool.and_true]
theorem fits_out {L : List Ent} {cl num : Int} {k : ByteArray} {v : Int} {M : List Wr} (hL : L.length ≤ 90) : fitsT L ⟨cl, num, [⟨k, v⟩], M⟩ [] = true := by
  have h0 : ∀ l : List Wr, l.filter (pRWr []) = [] := fun l => List.filter_eq_nil_iff.2 fun x _ => by simp [pRWr, hasB]
  have h2 : pRRd [] ⟨k, v⟩ = false := by simp [pRRd, hasB]
  unfold fitsT
  simp only [List.filter_cons, h2, List.filter_nil, h0]
  simp [moreT]
  omega
end Go.Proofs.YtaifmfnmgnmgbaaGreatDoor.Txn
