/- Txn: the arguments opened. and more. -/
import Derived.Test.YtaifmfnmgnmgbaaGreatDoorTxHead
import Derived.Test.YtaifmfnmgnmgbaaGreatDoorBase
import Derived.Test.YtaifmfnmgnmgbaaGreatDoorKnob
/- Txn: the arguments opened. -/
namespace Go.Proofs.YtaifmfnmgnmgbaaGreatDoor.Txn
open Go.RowKit Go.My Go.Deep
theorem one1 {α : Type} : ∀ {l : List α}, l.length = 1 → ∃ a, l = [a]
  | [a], _ => ⟨a, rfl⟩
theorem two2 {α : Type} : ∀ {l : List α}, l.length = 2 → ∃ a b, l = [a, b]
  | [a, b], _ => ⟨a, b, rfl⟩
theorem four4 {α : Type} : ∀ {l : List α}, l.length = 4 → ∃ a b c d, l = [a, b, c, d]
  | [a, b, c, d], _ => ⟨a, b, c, d, rfl⟩
abbrev LiesU (w : World) (a : Option Addr) (l : List UInt8) : Prop := LiesAt w a 1 uvL l
/-- a transaction as it is handed in -/
structure TxZ where
  t : Tx
  ra : Option Addr
  rc : Nat
  wa : Option Addr
  wc : Nat
structure TIn (w : World) (z : TxZ) : Prop where
  wide : TxWide w z.t z.ra z.wa
  n1 : z.ra = none → z.rc = 0
  n2 : z.wa = none → z.wc = 0
section
variable {H : Type} {enc : TypeId × Value → H} {w : World} {base : Nat} {spare : Nat → Bool} {held : Bool}
theorem slice_of {fuel t e : Nat} {v : Value} {x : DataW H × List MemPlace} (ht : Tryz.prog.underlying t = some (.slice e)) (h : DataW.trod enc Tryz.prog w base spare held fuel t [v] = some x) : ∃ a n c, v = .slice a n c ∧ (a = none → c = 0) := by
  rcases open_slice ht h with ⟨h0, _⟩ | ⟨ad, len', cap', m, n, D, Pl, hcs, _⟩
  · exact ⟨none, 0, 0, by simpa using h0, fun _ => rfl⟩
  · exact ⟨_, _, _, by simpa using hcs, fun h => by cases h⟩
set_option maxRecDepth 100000 in
theorem open_rds {fuel len cap : Nat} {a : Option Addr} {x : DataW H × List MemPlace} (h : DataW.trod enc Tryz.prog w base spare held fuel 22 [.slice a len cap] = some x) (hx : Within Tryz.prog 22 x.1) :
    ∃ l : List Rd, l.length = len ∧ LiesAt w a 2 rdL l ∧ l.length ≤ 140737488355328 := by
  obtain ⟨l, h1, h4, h5, h2, h3⟩ := open_listB (R := fun _ cs (e : Rd) => cs = rdL e) (c := 2) Tryz.underlying22 (by kernel_rfl) (by omega) (fun n cs d hl hd _ => by
    obtain ⟨v0, v1, rfl⟩ := two2 hl
    have hone : oneCellFields Tryz.prog (Tryz.prog.fieldsOf 53) = true := by kernel_rfl
    have hfs : Tryz.prog.underlying 53 = some (.struct (Tryz.prog.fieldsOf 53)) := by kernel_rfl
    obtain ⟨z0, rfl, s0⟩ := field_string hfs hone hd 0 _ v0 rfl rfl (by kernel_rfl)
    obtain ⟨z1, rfl, s1⟩ := field_int (k := .i64) hfs hone hd 1 _ v1 rfl rfl (by kernel_rfl)
    exact ⟨⟨z0, z1⟩, rfl⟩) h hx
  refine ⟨l, h1, fun i e hi => ?_, ?_⟩
  · obtain ⟨b, off, cs, p1, p2, p3, p4, rfl⟩ := h3 i e hi
    exact ⟨b, off, p1, p2, p4⟩
  · have hb : Tryz.prog.bytesOf 53 = 24 := by kernel_rfl
    rw [hb] at h2
    unfold reachBytes at h2
    omega
set_option maxRecDepth 100000 in
theorem open_wrs {fuel len cap : Nat} {a : Option Addr} {x : DataW H × List MemPlace} (h : DataW.trod enc Tryz.prog w base spare held fuel 23 [.slice a len cap] = some x) (hx : Within Tryz.prog 23 x.1) :
    ∃ l : List Wr, l.length = len ∧ LiesAt w a 2 wrL l ∧ l.length ≤ 140737488355328 := by
  obtain ⟨l, h1, h4, h5, h2, h3⟩ := open_listB (R := fun _ cs (e : Wr) => cs = wrL e) (c := 2) Tryz.underlying23 (by kernel_rfl) (by omega) (fun n cs d hl hd _ => by
    obtain ⟨v0, v1, rfl⟩ := two2 hl
    have hone : oneCellFields Tryz.prog (Tryz.prog.fieldsOf 48) = true := by kernel_rfl
    have hfs : Tryz.prog.underlying 48 = some (.struct (Tryz.prog.fieldsOf 48)) := by kernel_rfl
    obtain ⟨z0, rfl, s0⟩ := field_string hfs hone hd 0 _ v0 rfl rfl (by kernel_rfl)
    obtain ⟨z1, rfl, s1⟩ := field_string hfs hone hd 1 _ v1 rfl rfl (by kernel_rfl)
    exact ⟨⟨z0, z1⟩, rfl⟩) h hx
  refine ⟨l, h1, fun i e hi => ?_, ?_⟩
  · obtain ⟨b, off, cs, p1, p2, p3, p4, rfl⟩ := h3 i e hi
    exact ⟨b, off, p1, p2, p4⟩
  · have hb : Tryz.prog.bytesOf 48 = 32 := by kernel_rfl
    rw [hb] at h2
    unfold reachBytes at h2
    omega
set_option maxRecDepth 100000 in
theorem open_u8s {fuel len cap : Nat} {a : Option Addr} {x : DataW H × List MemPlace} (h : DataW.trod enc Tryz.prog w base spare held fuel 26 [.slice a len cap] = some x) (hx : Within Tryz.prog 26 x.1) :
    ∃ l : List UInt8, l.length = len ∧ LiesU w a l ∧ (a = none → cap = 0) := by
  have hn : a = none → cap = 0 := by
    obtain ⟨a', n', c', e, hh⟩ := slice_of Tryz.underlying26 h
    cases e
    exact hh
  obtain ⟨l, h1, h4, h5, h2, h3⟩ := open_listB (R := fun _ cs (e : UInt8) => cs = uvL e) (c := 1) Tryz.underlying26 (by kernel_rfl) (by omega) (fun n cs d hl hd _ => by
    obtain ⟨v0, rfl⟩ := one1 hl
    obtain ⟨z, hz, _, hw⟩ := DataW.trod_int Tryz.underlying5 hd
    refine ⟨UInt8.ofNat z.toNat, ?_⟩
    have hb : 0 ≤ z ∧ z ≤ 255 := by simpa [Lit.wf, IntKind.min, IntKind.max, IntKind.bits, IntKind.signed] using hw
    rw [hz]
    unfold uvL Merkle.uv
    have : ((UInt8.ofNat z.toNat).toNat : Int) = z := by simp; omega
    rw [this]) h hx
  refine ⟨l, h1, fun i e hi => ?_, hn⟩
  obtain ⟨b, off, cs, p1, p2, p3, p4, rfl⟩ := h3 i e hi
  exact ⟨b, off, p1, p2, p4⟩
set_option maxRecDepth 100000 in
theorem open_txn {fuel : Nat} {cs : Array Value} {x : DataW H × List MemPlace} (hc : cs.size = Tryz.prog.cellsOf 25) (h : DataW.trod enc Tryz.prog w base spare held fuel 25 cs.toList = some x) (hx : Within Tryz.prog 25 x.1) :
    ∃ z : TxZ, cs = #[.int .i64 z.t.cl, .int .i64 z.t.num, .slice z.ra z.t.R.length z.rc, .slice z.wa z.t.W.length z.wc] ∧ TIn w z := by
  have hl : cs.toList.length = 4 := by
    have : Tryz.prog.cellsOf 25 = 4 := by kernel_rfl
    rw [Array.length_toList, hc, this]
  obtain ⟨v0, v1, v2, v3, hv⟩ := four4 hl
  rw [hv] at h
  have hone : oneCellFields Tryz.prog (Tryz.prog.fieldsOf 25) = true := by kernel_rfl
  have hfs : Tryz.prog.underlying 25 = some (.struct (Tryz.prog.fieldsOf 25)) := by kernel_rfl
  obtain ⟨z0, rfl, s0⟩ := field_int (k := .i64) hfs hone h 0 _ v0 rfl rfl (by kernel_rfl)
  obtain ⟨z1, rfl, s1⟩ := field_int (k := .i64) hfs hone h 1 _ v1 rfl rfl (by kernel_rfl)
  obtain ⟨n2, y2, g2, k2⟩ := open_fieldB hfs hone h hx 2 _ v2 rfl rfl
  obtain ⟨n3, y3, g3, k3⟩ := open_fieldB hfs hone h hx 3 _ v3 rfl rfl
  obtain ⟨a1, l1, c1, rfl, e1⟩ := slice_of Tryz.underlying22 g2
  obtain ⟨a2, l2, c2, rfl, e2⟩ := slice_of Tryz.underlying23 g3
  obtain ⟨L, rfl, hL, hL9⟩ := open_rds g2 k2
  obtain ⟨B, rfl, hB, hB9⟩ := open_wrs g3 k3
  refine ⟨⟨⟨z0, z1, L, B⟩, a1, c1, a2, c2⟩, ?_, ⟨⟨hL, hB, hL9, hB9⟩, e1, e2⟩⟩
  cases cs
  simpa using hv
end
end Go.Proofs.YtaifmfnmgnmgbaaGreatDoor.Txn
/- Txn: entries handed in; a store beside a transaction's box. -/
namespace Go.Proofs.YtaifmfnmgnmgbaaGreatDoor.Txn
open Go.RowKit Go.My Go.Deep
theorem three3 {α : Type} : ∀ {l : List α}, l.length = 3 → ∃ a b c, l = [a, b, c]
  | [a, b, c], _ => ⟨a, b, c, rfl⟩
/-- so many entries as memory holds -/
def Good (L : List Ent) : Prop := (L.length : Int) ≤ 70368744177664 ∧ ∀ e ∈ L, e.key.size ≤ maxLen ∧ e.value.size ≤ maxLen
section
variable {H : Type} {enc : TypeId × Value → H} {w : World} {base : Nat} {spare : Nat → Bool} {held : Bool}
set_option maxRecDepth 100000 in
theorem open_first {fuel len cap : Nat} {a : Option Addr} {x : DataW H × List MemPlace} (h : DataW.trod enc Tryz.prog w base spare held fuel 38 [.slice a len cap] = some x) (hx : Within Tryz.prog 38 x.1) :
    ∃ L : List Ent, L.length = len ∧ SrcAny w a cap L ∧ Good L := by
  have hnil : a = none → cap = 0 := by
    obtain ⟨a', n', c', e, hh⟩ := slice_of Tryz.underlying38 h
    cases e
    exact hh
  obtain ⟨L, h1, h4, h5, h2, h3⟩ := open_listB (R := fun _ cs (e : Ent) => cs = entL e ∧ e.key.size ≤ maxLen ∧ e.value.size ≤ maxLen) (c := 3) Tryz.underlying38 (by kernel_rfl) (by omega) (fun n cs d hl hd _ => by
    obtain ⟨v0, v1, v2, rfl⟩ := three3 hl
    have hone : oneCellFields Tryz.prog (Tryz.prog.fieldsOf 42) = true := by kernel_rfl
    have hfs : Tryz.prog.underlying 42 = some (.struct (Tryz.prog.fieldsOf 42)) := by kernel_rfl
    obtain ⟨z0, rfl, s0⟩ := field_string hfs hone hd 0 _ v0 rfl rfl (by kernel_rfl)
    obtain ⟨z1, rfl, s1⟩ := field_string hfs hone hd 1 _ v1 rfl rfl (by kernel_rfl)
    obtain ⟨z2, rfl, _⟩ := field_int (k := .i64) hfs hone hd 2 _ v2 rfl rfl (by kernel_rfl)
    exact ⟨⟨z0, z1, z2⟩, rfl, s0, s1⟩) h hx
  have hb : Tryz.prog.bytesOf 42 = 40 := by kernel_rfl
  rw [hb] at h2
  unfold reachBytes at h2
  refine ⟨L, h1, ⟨fun i e hi => ?_, hnil, by omega, h5⟩, by omega, fun e he => ?_⟩
  · obtain ⟨b, off, cs, p1, p2, p3, p4, rfl, _⟩ := h3 i e hi
    exact ⟨b, off, p1, p2, p4⟩
  · obtain ⟨i, hi⟩ := List.getElem?_of_mem he
    obtain ⟨_, _, _, _, _, _, _, _, p5⟩ := h3 i e hi
    exact p5
end
/-- a transaction's box, and a store beside it -/
structure Box (X : World) (q : Nat) (cl num : Int) (ra : Option Addr) (rn rc : Nat) (wa : Option Addr) (wn wc : Nat) : Prop where
  cell : X.heap[q]? = some (.cells #[.int .i64 cl, .int .i64 num, .slice ra rn rc, .slice wa wn wc] 25 (0, 0))
section
variable {X Y : World} {q : Nat} {cl num : Int} {ra : Option Addr} {rn rc : Nat} {wa : Option Addr} {wn wc : Nat}
theorem Box.below (h : Box X q cl num ra rn rc wa wn wc) (hb : Below X.heap.size X Y) : Box Y q cl num ra rn rc wa wn wc := ⟨(hb.block _ (lt_of_heap h.cell)).trans h.cell⟩
theorem Box.lt (h : Box X q cl num ra rn rc wa wn wc) : q < X.heap.size := lt_of_heap h.cell
theorem Box.fz (h : Box X q cl num ra rn rc wa wn wc) (k : Nat) : X.frozen? ⟨q, k, none⟩ = false := by
  unfold World.frozen?
  rw [h.cell]
  simp
theorem Box.cells (h : Box X q cl num ra rn rc wa wn wc) : X.cell? ⟨q, 0, none⟩ = some (.int .i64 cl) ∧ X.cell? ⟨q, 1, none⟩ = some (.int .i64 num) ∧ X.cell? ⟨q, 2, none⟩ = some (.slice ra rn rc) ∧ X.cell? ⟨q, 3, none⟩ = some (.slice wa wn wc) :=
  ⟨by rw [cell_of_row _ _ _ _ _ _ h.cell]; rfl, by rw [cell_of_row _ _ _ _ _ _ h.cell]; rfl, by rw [cell_of_row _ _ _ _ _ _ h.cell]; rfl, by rw [cell_of_row _ _ _ _ _ _ h.cell]; rfl⟩
theorem Box.set (h : Box X q cl num ra rn rc wa wn wc) (a : Option Addr) (n c : Nat) : Box (X.setCell ⟨q, 2, none⟩ (.slice a n c)) q cl num a n c wa wn wc := ⟨by
  have := heap_setCell_same X q 2 _ _ (.slice a n c) h.cell
  exact this⟩
theorem Box.wrote (X : World) (q : Nat) (v : Value) : Wrote [q] X (X.setCell ⟨q, 2, none⟩ v) := (Wrote.refl _ _).setCell (.inl (by simp)) _
theorem Box.ne (h : Box X q cl num ra rn rc wa wn wc) {g k : Nat} {s : ByteArray} (hc : X.cell? ⟨g, k, none⟩ = some (.string s)) : g ≠ q := by
  rintro rfl
  rw [cell_of_row _ _ _ _ _ _ h.cell] at hc
  match k with
  | 0 => simp at hc
  | 1 => simp at hc
  | 2 => simp at hc
  | 3 => simp at hc
  | k + 4 => simp at hc
theorem Box.store (h : Box X q cl num ra rn rc wa wn wc) {p : Nat} {a : Option Addr} {cap : Nat} {L : List Ent} (hs : StoreAt X p a cap L) (hw : Wrote [q] X Y) : StoreAt Y p a cap L := by
  have hpq : p ≠ q := by
    rintro rfl
    have := hs.cell
    rw [h.cell] at this
    cases this
  refine ⟨(hw.block p (lt_of_heap hs.cell) (by simpa using hpq)).trans hs.cell, ⟨fun i x hi => ?_, hs.src.nil, hs.src.some, hs.src.room, hs.src.max⟩, hs.up⟩
  obtain ⟨g, o, e, hg, hc⟩ := hs.src.lies i x hi
  have hne : g ≠ q := h.ne (hc 0 _ rfl)
  refine ⟨g, o, e, Nat.lt_of_lt_of_le hg hw.size, fun j v hj => ?_⟩
  rw [Wrote.cell hw (p := ⟨g, _, none⟩) hg (by simpa using hne)]
  exact hc j v hj
theorem Box.lies (h : Box X q cl num ra rn rc wa wn wc) {b : Option Addr} {l : List ByteArray} (hl : LiesAt X b 1 strL l) (hw : Wrote [q] X Y) : LiesAt Y b 1 strL l := fun i x hi => by
  obtain ⟨g, o, e, hg, hc⟩ := hl i x hi
  have hne : g ≠ q := h.ne (hc 0 _ rfl)
  refine ⟨g, o, e, Nat.lt_of_lt_of_le hg hw.size, fun j v hj => ?_⟩
  rw [Wrote.cell hw (p := ⟨g, _, none⟩) hg (by simpa using hne)]
  exact hc j v hj
theorem Box.wr (h : Box X q cl num ra rn rc wa wn wc) {b : Option Addr} {l : List Wr} (hl : LiesAt X b 2 wrL l) (hw : Wrote [q] X Y) : LiesAt Y b 2 wrL l := fun i x hi => by
  obtain ⟨g, o, e, hg, hc⟩ := hl i x hi
  have hne : g ≠ q := h.ne (hc 0 _ rfl)
  refine ⟨g, o, e, Nat.lt_of_lt_of_le hg hw.size, fun j v hj => ?_⟩
  rw [Wrote.cell hw (p := ⟨g, _, none⟩) hg (by simpa using hne)]
  exact hc j v hj
end
/-! ### plain -/
theorem hasB_iff {l : List ByteArray} {k : ByteArray} : hasB l k = true ↔ k ∈ l := by
  unfold hasB
  simp
theorem fits_nil {L : List Ent} {cl num : Int} {M : List Wr} {K : List ByteArray} (hL : L.length ≤ 90) (hM : M.length ≤ 20) : fitsT L ⟨cl, num, [], M⟩ K = true := by
  have h1 : moreT L (M.filter (pRWr K)) ≤ 20 := Nat.le_trans List.countP_le_length (Nat.le_trans (List.length_filter_le _ _) hM)
  unfold fitsT
  simp only [List.filter_nil, List.all_nil, Bool.true_and, decide_eq_true_eq]
  omega
theorem fits_one {L : List Ent} {cl num : Int} {k : ByteArray} {v : Int} {M : List Wr} {K : List ByteArray} (hL : L.length ≤ 90) (hM : M.length ≤ 20) (hk : k ∈ K) : fitsT L ⟨cl, num, [⟨k, v⟩], M⟩ K = decide (oldV L k = v) := by
  have h1 : moreT L (M.filter (pRWr K)) ≤ 20 := Nat.le_trans List.countP_le_length (Nat.le_trans (List.length_filter_le _ _) hM)
  have h2 : pRRd K ⟨k, v⟩ = true := hasB_iff.2 hk
  have h3 : decide ((moreT L (M.filter (pRWr K)) : Int) ≤ 128 - (L.length : Int)) = true := decide_eq_true (by omega)
  unfold fitsT
  simp only [List.filter_cons, h2, List.filter_nil, if_true, List.all_cons, List.all_nil, Bool.and_true]
  rw [h3, Bool.and_true]
theorem fits_out {L : List Ent} {cl num : Int} {k : ByteArray} {v : Int} {M : List Wr} (hL : L.length ≤ 90) : fitsT L ⟨cl, num, [⟨k, v⟩], M⟩ [] = true := by
  have h0 : ∀ l : List Wr, l.filter (pRWr []) = [] := fun l => List.filter_eq_nil_iff.2 fun x _ => by simp [pRWr, hasB]
  have h2 : pRRd [] ⟨k, v⟩ = false := by simp [pRRd, hasB]
  unfold fitsT
  simp only [List.filter_cons, h2, List.filter_nil, h0]
  simp [moreT]
  omega
end Go.Proofs.YtaifmfnmgnmgbaaGreatDoor.Txn
/- Txn: what applied writes leave: plain. -/
namespace Go.Proofs.YtaifmfnmgnmgbaaGreatDoor.Txn
open Go.RowKit Go.My

/-- writes of unlike keys, where each is right and there is room, are all applied -/
theorem apply_all : ∀ {M : List Wr} {L : List Ent}, OfOK L → M.Pairwise (fun a b => a.key ≠ b.key) → (∀ x ∈ M, badArg L x.key x.val = false) → (L.length : Int) + (moreT L M : Int) ≤ 128 →
    ∃ L', applyL L M = some L' ∧ OfOK L' ∧ (∀ x ∈ M, getE L' x.key = some (newE L x.key x.val)) ∧ ∀ k, (∀ x ∈ M, x.key ≠ k) → getE L' k = getE L k
  | [], L, h, _, _, _ => ⟨L, rfl, h, by simp, fun _ _ => rfl⟩
  | x :: M, L, h, hp, hb, hm => by
    obtain ⟨hp1, hp2⟩ := List.pairwise_cons.1 hp
    have hb1 := hb x (by simp)
    have hf1 : full L x.key = false := by
      unfold full
      cases hh : hasK L x.key with
      | true => rfl
      | false =>
        have : 1 ≤ moreT L (x :: M) := by
          unfold moreT
          rw [List.countP_cons]
          simp [hh]
        have h2 : decide ((1 : Int) ≤ 128 - (L.length : Int)) = true := decide_eq_true (by omega)
        rw [h2]
        rfl
    have hok := ok_put h hb1 hf1
    have hget : ∀ k, getE (joinE L [newE L x.key x.val]) k = if x.key = k then some (newE L x.key x.val) else getE L k := fun k => put_get h.up _ k
    have hsame : ∀ y ∈ M, getE (joinE L [newE L x.key x.val]) y.key = getE L y.key := fun y hy => by
      rw [hget, if_neg (hp1 y hy)]
    have hold : ∀ y ∈ M, oldV (joinE L [newE L x.key x.val]) y.key = oldV L y.key := fun y hy => by unfold oldV; rw [hsame y hy]
    have hbad : ∀ y ∈ M, badArg (joinE L [newE L x.key x.val]) y.key y.val = false := fun y hy => by
      have := hb y (by simp [hy])
      unfold badArg at this ⊢
      rw [hold y hy]
      exact this
    have hmore : moreT (joinE L [newE L x.key x.val]) M = moreT L M := by
      unfold moreT
      refine List.countP_congr fun y hy => ?_
      rw [← get_has, ← get_has, hsame y hy]
    have hlen : ((joinE L [newE L x.key x.val]).length : Int) + (moreT (joinE L [newE L x.key x.val]) M : Int) ≤ 128 := by
      have h1 := put_count h.up (newE L x.key x.val)
      have h2 : moreT L (x :: M) = moreT L M + (if hasK L x.key = true then 0 else 1) := by
        unfold moreT
        rw [List.countP_cons]
        cases hasK L x.key <;> rfl
      have h3 : (newE L x.key x.val).key = x.key := rfl
      rw [h3] at h1
      rw [hmore, h1]
      rw [h2] at hm
      split at hm <;> rename_i hh
      · rw [if_pos hh]; omega
      · rw [if_neg hh]; omega
    obtain ⟨L', e1, e2, e3, e4⟩ := apply_all hok hp2 hbad hlen
    refine ⟨L', ?_, e2, ?_, ?_⟩
    · rw [applyL, hb1, hf1]
      exact e1
    · intro y hy
      rcases List.mem_cons.1 hy with rfl | hy
      · rw [e4 y.key fun z hz => Ne.symm (hp1 z hz), hget, if_pos rfl]
      · have h5 : newE (joinE L [newE L x.key x.val]) y.key y.val = newE L y.key y.val := by
          show (⟨_, _, _⟩ : Ent) = ⟨_, _, _⟩
          rw [hold y hy]
        rw [e3 y hy, h5]
    · intro k hk
      rw [e4 k fun z hz => hk z (by simp [hz]), hget, if_neg (hk x (by simp))]
theorem right_apart {t : Tx} (h : rightT t = true) : t.W.Pairwise (fun a b => a.key ≠ b.key) := by
  have hw : ∀ i, i < t.W.length → okW t.W i = true := by
    unfold rightT risesW at h
    simp only [Bool.and_eq_true, decide_eq_true_eq, List.all_eq_true] at h
    intro i hi
    exact h.2.1 i (by simpa using hi)
  have step : ∀ (i : Nat) x y, t.W[i]? = some x → t.W[i + 1]? = some y → lessK x.key y.key = true := fun i x y hx hy => by
    have := hw (i + 1) (List.getElem?_eq_some_iff.1 hy).1
    unfold okW at this
    rw [hy] at this
    simp only [Nat.add_sub_cancel, hx, Bool.and_eq_true, Bool.or_eq_true, decide_eq_true_eq] at this
    rcases this.2 with h0 | h0
    · omega
    · exact h0
  have lt : ∀ (d i : Nat) x y, t.W[i]? = some x → t.W[i + d + 1]? = some y → lessK x.key y.key = true := by
    intro d
    induction d with
    | zero => exact fun i x y hx hy => step i x y hx hy
    | succ d ih =>
      intro i x y hx hy
      obtain ⟨z, hz⟩ : ∃ z, t.W[i + d + 1]? = some z := ⟨_, List.getElem?_eq_getElem (by have := (List.getElem?_eq_some_iff.1 hy).1; omega)⟩
      exact lessK_trans (ih i x z hx hz) (step _ z y hz hy)
  rw [List.pairwise_iff_getElem]
  intro i j hi hj hij e
  have h1 := lt (j - i - 1) i _ _ (List.getElem?_eq_getElem hi) (by rw [show i + (j - i - 1) + 1 = j by omega]; exact List.getElem?_eq_getElem hj)
  rw [e, lessK_irr] at h1
  cases h1
theorem right_bad {t : Tx} (h : rightT t = true) {L : List Ent} (hv : ∀ e ∈ L, e.ver < 4611686018427387904) : ∀ x ∈ t.W, badArg L x.key x.val = false := fun x hx => by
  obtain ⟨h1, h2⟩ := (rightT_of h).w x hx
  have ho : oldV L x.key < 4611686018427387904 := by
    unfold oldV
    cases hg : getE L x.key with
    | none => decide
    | some e => exact hv e (get_some hg).1
  unfold badArg fitE
  have h3 : decide ((4611686018427387904 : Int) ≤ oldV L x.key) = false := decide_eq_false (by omega)
  simp [h3, h1, h2]
theorem all_named {t : Tx} : t.W.filter (pRWr (keysT t)) = t.W := List.filter_eq_self.2 fun x hx => hasB_iff.2 (keysT_mem.2 (.inr ⟨x, hx, rfl⟩))
end Go.Proofs.YtaifmfnmgnmgbaaGreatDoor.Txn
/- Txn: two transactions without a key in common: plain. -/
namespace Go.Proofs.YtaifmfnmgnmgbaaGreatDoor.Txn
open Go.RowKit Go.My

/-- what applied writes of unlike keys leave -/
theorem apply_got : ∀ {M : List Wr} {L L' : List Ent}, OfOK L → M.Pairwise (fun a b => a.key ≠ b.key) → applyL L M = some L' →
    (∀ x ∈ M, getE L' x.key = some (newE L x.key x.val)) ∧ (∀ k, (∀ x ∈ M, x.key ≠ k) → getE L' k = getE L k) ∧ L'.length = L.length + moreT L M
  | [], L, L', h, _, e => by cases e; exact ⟨by simp, fun _ _ => rfl, rfl⟩
  | x :: M, L, L', h, hp, e => by
    obtain ⟨hp1, hp2⟩ := List.pairwise_cons.1 hp
    rw [applyL] at e
    split at e
    · cases e
    · rename_i hn
      have hb : badArg L x.key x.val = false := by cases hb : badArg L x.key x.val with | false => rfl | true => rw [hb] at hn; simp at hn
      have hf : full L x.key = false := by cases hf : full L x.key with | false => rfl | true => rw [hf] at hn; simp at hn
      obtain ⟨e1, e2, e3⟩ := apply_got (ok_put h hb hf) hp2 e
      have hget : ∀ k, getE (joinE L [newE L x.key x.val]) k = if x.key = k then some (newE L x.key x.val) else getE L k := fun k => put_get h.up _ k
      have hsame : ∀ y ∈ M, getE (joinE L [newE L x.key x.val]) y.key = getE L y.key := fun y hy => by
        rw [hget, if_neg (hp1 y hy)]
      refine ⟨?_, ?_, ?_⟩
      · intro y hy
        rcases List.mem_cons.1 hy with rfl | hy
        · rw [e2 y.key fun z hz => Ne.symm (hp1 z hz), hget, if_pos rfl]
        · have h5 : newE (joinE L [newE L x.key x.val]) y.key y.val = newE L y.key y.val := by
            show (⟨_, _, _⟩ : Ent) = ⟨_, _, _⟩
            unfold oldV
            rw [hsame y hy]
          rw [e1 y hy, h5]
      · intro k hk
        rw [e2 k fun z hz => hk z (by simp [hz]), hget, if_neg (hk x (by simp))]
      · have hmore : moreT (joinE L [newE L x.key x.val]) M = moreT L M := by
          unfold moreT
          refine List.countP_congr fun y hy => ?_
          rw [← get_has, ← get_has, hsame y hy]
        have h1 := put_count h.up (newE L x.key x.val)
        have h2 : moreT L (x :: M) = moreT L M + (if hasK L x.key = true then 0 else 1) := by
          unfold moreT
          rw [List.countP_cons]
          cases hasK L x.key <;> rfl
        have h3 : (newE L x.key x.val).key = x.key := rfl
        rw [h3] at h1
        rw [e3, hmore, h1, h2]
        split <;> omega
theorem up_ext : ∀ {L M : List Ent}, Up L → Up M → (∀ k, getE L k = getE M k) → L = M
  | [], [], _, _, _ => rfl
  | [], b :: M, _, _, h => by
    have := h b.key
    rw [get_nil, get_cons, if_pos rfl] at this
    cases this
  | a :: L, [], _, _, h => by
    have := h a.key
    rw [get_nil, get_cons, if_pos rfl] at this
    cases this
  | a :: L, b :: M, hl, hm, h => by
    obtain ⟨l1, l2⟩ := List.pairwise_cons.1 hl
    obtain ⟨m1, m2⟩ := List.pairwise_cons.1 hm
    have hk : a.key = b.key := by
      refine Classical.byContradiction fun hne => ?_
      cases hab : lessK a.key b.key with
      | true =>
        have e := h a.key
        rw [get_cons, if_pos rfl] at e
        have hmem := (get_some e.symm).1
        rcases List.mem_cons.1 hmem with rfl | hin
        · exact hne rfl
        · have := m1 a hin
          rw [lessK_asymm this] at hab
          cases hab
      | false =>
        have hba := lessK_tri (a := a.key) (b := b.key) (by rw [hab]; simp) hne
        have e := h b.key
        rw [get_cons (L := M), if_pos rfl] at e
        have hmem := (get_some e).1
        rcases List.mem_cons.1 hmem with rfl | hin
        · exact hne rfl
        · have := l1 b hin
          rw [this] at hab
          cases hab
    have hab : a = b := by
      have e := h a.key
      rw [get_cons, if_pos rfl, get_cons, if_pos hk.symm] at e
      exact Option.some.inj e
    subst hab
    have hno : ∀ {R : List Ent}, (∀ x ∈ R, lessK a.key x.key = true) → getE R a.key = none := fun {R} hr => get_no (has_false fun e he => ne_of_less (hr e he))
    rw [up_ext l2 m2 fun k => by
      by_cases hak : a.key = k
      · rw [← hak, hno l1, hno m1]
      · have e := h k
        rw [get_cons, if_neg hak, get_cons, if_neg hak] at e
        exact e]
/-- it is all one which is applied first -/
theorem apart_same {L La Lau Lb Lbu : List Ent} {A B : List Wr} (h : OfOK L) (ha : A.Pairwise (fun a b => a.key ≠ b.key)) (hb : B.Pairwise (fun a b => a.key ≠ b.key)) (hd : ∀ x ∈ A, ∀ y ∈ B, x.key ≠ y.key)
    (h1 : applyL L A = some La) (h2 : applyL La B = some Lau) (h3 : applyL L B = some Lb) (h4 : applyL Lb A = some Lbu) : Lau = Lbu := by
  have oa := apply_ok h h1
  have ob := apply_ok h h3
  obtain ⟨p1, p2, _⟩ := apply_got h ha h1
  obtain ⟨q1, q2, _⟩ := apply_got oa hb h2
  obtain ⟨r1, r2, _⟩ := apply_got h hb h3
  obtain ⟨s1, s2, _⟩ := apply_got ob ha h4
  refine up_ext (apply_ok oa h2).up (apply_ok ob h4).up fun k => ?_
  by_cases hka : ∃ x ∈ A, x.key = k
  · obtain ⟨x, hx, rfl⟩ := hka
    have hnb : ∀ y ∈ B, y.key ≠ x.key := fun y hy => Ne.symm (hd x hx y hy)
    rw [q2 _ hnb, p1 x hx, s1 x hx]
    unfold newE oldV
    rw [r2 _ hnb]
  · have hna : ∀ x ∈ A, x.key ≠ k := fun x hx e => hka ⟨x, hx, e⟩
    rw [s2 k hna]
    by_cases hkb : ∃ y ∈ B, y.key = k
    · obtain ⟨y, hy, rfl⟩ := hkb
      rw [q1 y hy, r1 y hy]
      unfold newE oldV
      rw [p2 _ hna]
    · have hnb : ∀ y ∈ B, y.key ≠ k := fun y hy e => hkb ⟨y, hy, e⟩
      rw [q2 k hnb, p2 k hna, r2 k hnb]
/-- whether one fits does not hang on the other -/
theorem apart_fits {L La : List Ent} {t u : Tx} (h : OfOK L) (hl : L.length ≤ 90) (ht : rightT t = true) (hu : rightT u = true) (hd : ∀ k ∈ keysT t, k ∉ keysT u) (h1 : applyL L t.W = some La) : fitsT La u (keysT u) = fitsT L u (keysT u) := by
  obtain ⟨_, p2, p3⟩ := apply_got h (right_apart ht) h1
  have h8 := (rightT_of ht).wl
  have g8 := (rightT_of hu).wl
  have hsame : ∀ k ∈ keysT u, getE La k = getE L k := fun k hk => p2 k fun x hx e => hd x.key (keysT_mem.2 (.inr ⟨x, hx, rfl⟩)) (by rw [e]; exact hk)
  have hm : ∀ (L : List Ent) (M : List Wr), moreT L M ≤ M.length := fun L M => List.countP_le_length
  have ha : La.length ≤ 98 := by have := hm L t.W; omega
  have hw : (u.W.filter (pRWr (keysT u))).length ≤ 8 := Nat.le_trans (List.length_filter_le _ _) g8
  have e1 : decide ((moreT La (u.W.filter (pRWr (keysT u))) : Int) ≤ 128 - (La.length : Int)) = true := decide_eq_true (by have := hm La (u.W.filter (pRWr (keysT u))); omega)
  have e2 : decide ((moreT L (u.W.filter (pRWr (keysT u))) : Int) ≤ 128 - (L.length : Int)) = true := decide_eq_true (by have := hm L (u.W.filter (pRWr (keysT u))); omega)
  unfold fitsT
  rw [e1, e2, Bool.and_true, Bool.and_true]
  apply Bool.eq_iff_iff.2
  simp only [List.all_eq_true, decide_eq_true_eq, List.mem_filter]
  have hold : ∀ x ∈ u.R, oldV La x.key = oldV L x.key := fun x hx => by
    unfold oldV
    rw [hsame x.key (keysT_mem.2 (.inl ⟨x, hx, rfl⟩))]
  exact ⟨fun H x hx => (hold x hx.1).symm.trans (H x hx), fun H x hx => (hold x hx.1).trans (H x hx)⟩
end Go.Proofs.YtaifmfnmgnmgbaaGreatDoor.Txn
/- Txn: words of the laws on stores: plain. -/
namespace Go.Proofs.YtaifmfnmgnmgbaaGreatDoor.Txn
open Go.RowKit Go.My

theorem keys_right {t : Tx} (h : rightT t = true) : (keysT t).length ≤ 100000 := by
  have h0 := keysB_len (namedT t)
  have h1 := (rightT_of h).rl
  have h2 := (rightT_of h).wl
  unfold keysT
  unfold namedT at *
  rw [List.length_append, List.length_map, List.length_map] at h0
  omega
/-- the last version of a key among the first entries -/
def WasT (L : List Ent) (k : ByteArray) (m : Nat) (z : Int) : Prop := (z = 0 ∧ ∀ e ∈ L.take m, e.key ≠ k) ∨ ∃ e ∈ L.take m, e.key = k ∧ z = e.ver
theorem was_zero (L : List Ent) (k : ByteArray) : WasT L k 0 0 := .inl ⟨rfl, by simp⟩
theorem was_take {L : List Ent} {m : Nat} {e : Ent} (he : L[m]? = some e) : L.take (m + 1) = L.take m ++ [e] := by
  rw [List.take_add_one, he]
  rfl
theorem was_hit {L : List Ent} {k : ByteArray} {m : Nat} {e : Ent} (he : L[m]? = some e) (hk : e.key = k) : WasT L k (m + 1) e.ver :=
  .inr ⟨e, by rw [was_take he]; simp, hk, rfl⟩
theorem was_miss {L : List Ent} {k : ByteArray} {m : Nat} {z : Int} {e : Ent} (h : WasT L k m z) (he : L[m]? = some e) (hk : e.key ≠ k) : WasT L k (m + 1) z := by
  rcases h with ⟨h1, h2⟩ | ⟨y, hy, h1, h2⟩
  · refine .inl ⟨h1, fun y hy => ?_⟩
    rw [was_take he] at hy
    rcases List.mem_append.1 hy with hy | hy
    · exact h2 y hy
    · rw [List.mem_singleton.1 hy]
      exact hk
  · exact .inr ⟨y, by rw [was_take he]; simp [hy], h1, h2⟩
theorem was_end {L : List Ent} {k : ByteArray} {z : Int} (hu : Up L) (h : WasT L k L.length z) : z = oldV L k := by
  unfold WasT at h
  rw [List.take_length] at h
  unfold oldV
  rcases h with ⟨h1, h2⟩ | ⟨y, hy, h1, h2⟩
  · rw [get_no (has_false h2), h1]
    rfl
  · rw [← h1, get_mem hu hy, h2]
    rfl
theorem fits_room {L : List Ent} {t : Tx} (h : fitsT L t (keysT t) = true) : (L.length : Int) + (moreT L t.W : Int) ≤ 128 := by
  unfold fitsT at h
  rw [all_named] at h
  simp only [Bool.and_eq_true, decide_eq_true_eq] at h
  omega
/-- is a key among the first writes? -/
def wrB (M : List Wr) (k : ByteArray) (m : Nat) : Bool := (M.take m).any fun x => decide (x.key = k)
theorem wrB_zero (M : List Wr) (k : ByteArray) : wrB M k 0 = false := rfl
theorem wrB_step {M : List Wr} {k : ByteArray} {m : Nat} {x : Wr} (hx : M[m]? = some x) : wrB M k (m + 1) = (wrB M k m || decide (x.key = k)) := by
  unfold wrB
  rw [List.take_add_one, hx, List.any_append]
  simp
theorem wrB_none {M : List Wr} {k : ByteArray} (h : wrB M k M.length = false) : ∀ x ∈ M, x.key ≠ k := by
  unfold wrB at h
  rw [List.take_length, List.any_eq_false] at h
  intro x hx
  simpa using h x hx
section
variable {X Y : World} {q : Nat} {cl num : Int} {ra : Option Addr} {rn rc : Nat} {wa : Option Addr} {wn wc : Nat}
theorem Box.keepP (h : Box X q cl num ra rn rc wa wn wc) {p : Nat} {a : Option Addr} {cap : Nat} {L : List Ent} (hs : StoreAt X p a cap L) (hw : Wrote [p] X Y) : Box Y q cl num ra rn rc wa wn wc := ⟨by
  have hne : q ≠ p := by
    rintro rfl
    have := hs.cell
    rw [h.cell] at this
    cases this
  exact (hw.block q h.lt (by simpa using hne)).trans h.cell⟩
end
/-- Apply where all is well -/
theorem apply_well {t : Tx} {ra : Option Addr} {rc : Nat} {wa : Option Addr} {wc : Nat} {p : Nat} {a : Option Addr} {cap : Nat} {L L' : List Ent} {ka : Option Addr} {kc : Nat} {w : World} (h : TxAt w t ra wa) (hn2 : wa = none → wc = 0)
    (hs : StoreAt w p a cap L) (hO : OfOK L) (hK : LiesAt w ka 1 strL (keysT t)) (hk9 : (keysT t).length ≤ 100000) (hL : applyL L t.W = some L') :
    Calls Tryz.prog 17 #[txV t ra rc wa wc, .pointer (some ⟨p, 0, none⟩), .slice ka (keysT t).length kc] w fun e w' => e = .returned .nilIface ∧ Wrote [p] w w' ∧ ∃ a cap, StoreAt w' p a cap L' := by
  have HA := apply_any t ra rc wa wc p a cap L ka kc (keysT t) w h hn2 hs hO hK hk9
  rw [all_named] at HA
  refine HA.mono ?_
  rintro e w' ⟨hw, ⟨L2, a2, c2, h2, rfl, _, hs2⟩ | ⟨h2, _⟩⟩
  · rw [hL] at h2
    cases h2
    exact ⟨rfl, hw, _, _, hs2⟩
  · rw [hL] at h2
    cases h2
end Go.Proofs.YtaifmfnmgnmgbaaGreatDoor.Txn
