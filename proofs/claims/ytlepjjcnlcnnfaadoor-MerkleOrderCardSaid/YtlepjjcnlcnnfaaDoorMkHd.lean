/- Merkle: head. -/
import Derived.Test.YtlepjjcnlcnnfaaDoorMkHead
namespace Go.Proofs.YtlepjjcnlcnnfaaDoor.Merkle
open Go.RowKit Go.My

def hdL : List Ent := [⟨⟨#[97]⟩, ⟨#[120]⟩, 0⟩, ⟨⟨#[99]⟩, ⟨#[121]⟩, 0⟩]
theorem hd_right : rightB hdL = true := by decide +kernel
theorem hd_wide : Wide hdL := by unfold Wide hdL; intro x hx; simp at hx; rcases hx with rfl | rfl <;> decide
theorem hd_ents {w : World} {bB q : Nat} (h : w.heap[q]? = some (.cells #[.string ⟨#[97]⟩, .string ⟨#[120]⟩, .int .i64 0, .string ⟨#[99]⟩, .string ⟨#[121]⟩, .int .i64 0] 36 (0, 0))) : EntsAt w bB (some ⟨q, 0, none⟩) hdL := by
  refine ⟨fun i x hi => ?_, fun g o e _ => by cases e; exact ⟨lt_of_heap h, .inr ⟨_, h, rfl⟩⟩⟩
  have hc : ∀ (j : Nat) u, ([.string ⟨#[97]⟩, .string ⟨#[120]⟩, .int .i64 0, .string ⟨#[99]⟩, .string ⟨#[121]⟩, .int .i64 0] : List Value)[j]? = some u → w.cell? ⟨q, j, none⟩ = some u := fun j u hj => by rw [cell_of_row _ _ _ _ _ _ h]; simpa using hj
  refine ⟨q, 0, rfl, lt_of_heap h, fun j u hj => hc _ u ?_⟩
  rcases i with _ | _ | i
  · cases hi
    rcases j with _ | _ | _ | j <;> first | exact hj | (exfalso; revert hj; simp [entL])
  · cases hi
    rcases j with _ | _ | _ | j <;> first | exact hj | (exfalso; revert hj; simp [entL])
  · cases hi
theorem mkP_val {l : List Ent} {f k : Nat} {ds : List Nat} (hfk : f + k ≤ l.length) (a1 : Option Addr) (c1 : Nat) (a2 : Option Addr) (c2 : Nat) : prfV (mkP l f k ds) a1 c1 a2 c2 = .agg #[.int .i64 (l.length : Int), .int .i64 (f : Int), .slice a1 k c1, .slice a2 ds.length c2] := by
  have h : ((l.drop f).take k).length = k := by rw [List.length_take, List.length_drop]; omega
  show (Value.agg #[.int .i64 (l.length : Int), .int .i64 (f : Int), .slice a1 ((l.drop f).take k).length c1, .slice a2 (ds.map _).length c2]) = _
  rw [h, List.length_map]
theorem hd_a : hasV ((hdL.drop 0).take 1) 2 0 ⟨#[97]⟩ = .tuple #[.agg #[.string ⟨#[97]⟩, .string ⟨#[120]⟩, .int .i64 0], .bool true, .nilIface] := by rfl
theorem hd_b : hasV ((hdL.drop 0).take 1) 2 0 ⟨#[98]⟩ = .tuple #[.agg #[.string ⟨#[]⟩, .string ⟨#[]⟩, .int .i64 0], .bool false, wrongV 62] := by kernel_rfl
theorem hd_parts {T : List ByteArray} {ds : List Nat} (h : BesideAt enc T 0 (0 + 1) 0 hdL ds) : ds.length = 1 := by
  rw [h.len]
  decide +kernel
/-- the live question's state, once the proof is made -/
structure HdAt (w : World) (W : World) (b m : Nat) (v : Value) (T : List ByteArray) (d t pb : Nat) (a1 a2 : Option Addr) (c1 c2 : Nat) (ds : List Nat) : Prop where
  bk : BkT W w.heap.size b m v T
  top : TopAt enc T hdL t
  root : At T d (rootT 2 t)
  bes : BesideAt enc T 0 (0 + 1) 0 hdL ds
  prf : PrfAt W w.heap.size (mkP hdL 0 1 ds) a1 a2
  cap : ds.length ≤ c2
  box : W.heap[pb]? = some (.cells #[.int .i64 2, .int .i64 0, .slice a1 1 c1, .slice a2 1 c2] 25 (0, 0))
  below : Below w.heap.size w W
  one : ds.length = 1
theorem HdAt.cell {w W : World} {b m d t pb : Nat} {v : Value} {T : List ByteArray} {a1 a2 : Option Addr} {c1 c2 : Nat} {ds : List Nat} (h : HdAt w W b m v T d t pb a1 a2 c1 c2 ds) :
    W.cell? ⟨pb, 0, none⟩ = some (.int .i64 2) ∧ W.cell? ⟨pb, 1, none⟩ = some (.int .i64 0) ∧ W.cell? ⟨pb, 2, none⟩ = some (.slice a1 1 c1) ∧ W.cell? ⟨pb, 3, none⟩ = some (.slice a2 1 c2) :=
  ⟨by rw [cell_of_row _ _ _ _ _ _ h.box]; rfl, by rw [cell_of_row _ _ _ _ _ _ h.box]; rfl, by rw [cell_of_row _ _ _ _ _ _ h.box]; rfl, by rw [cell_of_row _ _ _ _ _ _ h.box]; rfl⟩
theorem HdAt.next {w W W' : World} {b m d t pb : Nat} {v v' : Value} {T T' : List ByteArray} {a1 a2 : Option Addr} {c1 c2 : Nat} {ds : List Nat} (h : HdAt w W b m v T d t pb a1 a2 c1 c2 ds) (hb : BkT W' w.heap.size b m v' T') (he : Ext T T') (hf : Fx w.heap.size W W') : HdAt w W' b m v' T' d t pb a1 a2 c1 c2 ds :=
  ⟨hb, h.top.ext he, he _ _ h.root, h.bes.ext he, h.prf.keep hf, h.cap, hf.kept _ _ h.box rfl, h.below.trans hf.below, h.one⟩
theorem HdAt.low {w W W' : World} {b m d t pb : Nat} {v : Value} {T : List ByteArray} {a1 a2 : Option Addr} {c1 c2 : Nat} {ds : List Nat} (h : HdAt w W b m v T d t pb a1 a2 c1 c2 ds) (hf : Below W.heap.size W W') : HdAt w W' b m v T d t pb a1 a2 c1 c2 ds :=
  h.next (h.bk.below hf) (Ext.refl _) (Fx.of_below hf h.bk.le)
theorem HdAt.val {w W : World} {b m d t pb : Nat} {v : Value} {T : List ByteArray} {a1 a2 : Option Addr} {c1 c2 : Nat} {ds : List Nat} (h : HdAt w W b m v T d t pb a1 a2 c1 c2 ds) : prfV (mkP hdL 0 1 ds) a1 c1 a2 c2 = .agg #[.int .i64 2, .int .i64 0, .slice a1 1 c1, .slice a2 1 c2] := by
  rw [mkP_val (by decide), h.one]
  rfl
theorem HdAt.chk {w W : World} {b m d t pb : Nat} {v : Value} {T : List ByteArray} {a1 a2 : Option Addr} {c1 c2 : Nat} {ds : List Nat} (h : HdAt w W b m v T d t pb a1 a2 c1 c2 ds) (hT : T.length ≤ 50000) :
    Calls Tryd.prog 13 #[.pointer (some ⟨b, 0, none⟩), .int .i64 (d : Int), .agg #[.int .i64 2, .int .i64 0, .slice a1 1 c1, .slice a2 1 c2]] W fun e W' => e = .returned .nilIface ∧ ∃ v' T', HdAt w W' b m v' T' d t pb a1 a2 c1 c2 ds ∧ T'.length ≤ T.length + 5 := by
  have hc := chk_yes w.heap.size b m v T (d : Int) (mkP hdL 0 1 ds) 2 0 a1 a2 c1 c2 W h.bk h.prf (by show (ds.map _).length ≤ _; rw [List.length_map]; exact h.cap) (mkP_shaped hd_right (by decide) h.bes) hT
  rw [h.val] at hc
  refine hc.mono ?_
  rintro e W' ⟨v', T', t', d', rfl, q1, q2, q3, q4, q5⟩
  have e := made_root q1.nd (by decide) h.bes q2 q3 (h.top.ext q2) (q2 _ _ h.root)
  subst e
  rw [if_pos rfl]
  exact ⟨rfl, v', T', h.next q1 q2 q5, q4⟩
theorem HdAt.has {w W : World} {b m d t pb : Nat} {v : Value} {T : List ByteArray} {a1 a2 : Option Addr} {c1 c2 : Nat} {ds : List Nat} (h : HdAt w W b m v T d t pb a1 a2 c1 c2 ds) (hT : T.length ≤ 50000) (key : ByteArray) (u : Value) (hu : hasV ((hdL.drop 0).take 1) 2 0 key = u) :
    Calls Tryd.prog 10 #[.pointer (some ⟨b, 0, none⟩), .int .i64 (d : Int), .string key, .agg #[.int .i64 2, .int .i64 0, .slice a1 1 c1, .slice a2 1 c2]] W fun e W' => e = .returned u ∧ ∃ v' T', HdAt w W' b m v' T' d t pb a1 a2 c1 c2 ds ∧ T'.length ≤ T.length + 5 := by
  have hc := has_shaped w.heap.size b m v T (d : Int) key (mkP hdL 0 1 ds) 2 0 a1 a2 c1 c2 W h.bk h.prf (by show (ds.map _).length ≤ _; rw [List.length_map]; exact h.cap) (mkP_shaped hd_right (by decide) h.bes) hT
  rw [h.val] at hc
  refine hc.mono ?_
  rintro e W' ⟨v', T', t', d', rfl, q1, q2, q3, q4, q5⟩
  have e := made_root q1.nd (by decide) h.bes q2 q3 (h.top.ext q2) (q2 _ _ h.root)
  subst e
  rw [if_pos rfl]
  exact ⟨congrArg _ hu, v', T', h.next q1 q2 q5, q4⟩
set_option maxRecDepth 100000 in
set_option maxHeartbeats 1600000 in
theorem head_any (w : World) : Calls Tryd.prog 5 #[] w fun e w' => e = .returned (.bool true) ∧ Below w.heap.size w w' := by
  go_enter Tryd.func5, Tryd.ntmps5
  go_wp2_with (go_at_call 6; refine (Book.new_any _).mono ?_; rintro e w1 ⟨b, m, v, rfl, hs1, hb1⟩; have H1 := Lib.hid hs1; have B1 := Lib.hid hb1; clear hs1 hb1)
  have HB1 : Hid (BkT w1 w.heap.size b m v []) := ⟨H1.out, List.nodup_nil⟩
  obtain ⟨W2, hW2⟩ : ∃ W2 : World, W2 = w1.alloc (.cells #[.string ⟨#[97]⟩, .string ⟨#[120]⟩, .int .i64 0, .string ⟨#[99]⟩, .string ⟨#[121]⟩, .int .i64 0] 36) := ⟨_, rfl⟩
  obtain ⟨q, hq⟩ : ∃ q, q = w1.heap.size := ⟨_, rfl⟩
  have hblk : W2.heap[q]? = some (.cells #[.string ⟨#[97]⟩, .string ⟨#[120]⟩, .int .i64 0, .string ⟨#[99]⟩, .string ⟨#[121]⟩, .int .i64 0] 36 (0, 0)) := by rw [hW2, hq]; exact heap_alloc_new w1 _
  have hb12 : Below w1.heap.size w1 W2 := by rw [hW2]; exact (Below.refl _ _).alloc (Nat.le_refl _) _
  rw [← hW2, ← hq]
  have he : EntsAt W2 w.heap.size (some ⟨q, 0, none⟩) hdL := hd_ents hblk
  have hbk := HB1.out.below hb12
  have H2 := Lib.hid (And.intro he (And.intro hbk (B1.out.trans (hb12.mono B1.out.size))))
  clear hblk hb12 hW2 hq he hbk
  refine (root_yes w.heap.size b m v [] (some ⟨q, 0, none⟩) 2 hdL W2 H2.out.2.1 H2.out.1 hd_wide hd_right (by simp)).mono ?_
  rintro e w3 ⟨v3, T3, d, t, rfl, h3, -, ht, hr, hl, hf⟩
  have hl3 : T3.length ≤ 6 := hl
  have H3 := Lib.hid (And.intro (H2.out.1.keep hf) (And.intro h3 (And.intro ht (And.intro hr (And.intro hl3 ((H2.out.2.2).trans (hf.below)))))))
  clear h3 ht hr hl hf hl3
  go_wp2_with fail
  have HP := prove_yes w.heap.size b m v3 T3 (some ⟨q, 0, none⟩) 2 hdL 0 1 w3 H3.out.2.1 H3.out.1 hd_wide hd_right (by decide) (by decide) (by decide) (by have := H3.out.2.2.2.2.1; omega)
  refine HP.mono ?_
  rintro e w4 ⟨v4, T4, a1, c1, a2, c2, ds, rfl, h4, hx4, hbd, he1, hl2, hs2, hdc, hT4, hf4⟩
  have HQ := Lib.hid (And.intro h4 (And.intro hx4 (And.intro hbd (And.intro he1 (And.intro hl2 (And.intro hs2 (And.intro hdc (And.intro hT4 hf4))))))))
  clear h4 hx4 hbd he1 hl2 hs2 hdc hT4 hf4 HP
  have hone := hd_parts HQ.out.2.2.1
  rw [hone]
  have HO := Lib.hid hone
  clear hone
  go_wp2_with fail
  obtain ⟨pb, hpb⟩ : ∃ pb, pb = w4.heap.size := ⟨_, rfl⟩
  obtain ⟨W5, hW5⟩ : ∃ W5 : World, W5 = w4.alloc (.cells #[.int .i64 ↑hdL.length, .int .i64 0, .slice a1 1 c1, .slice a2 1 c2] 25) := ⟨_, rfl⟩
  have hb45 : Below w4.heap.size w4 W5 := by rw [hW5]; exact bl_alloc _ _
  have h5 : HdAt w W5 b m v4 T4 d t pb a1 a2 c1 c2 ds := by
    obtain ⟨h4, hx4, hbd, he1, hl2, hs2, hdc, hT4, hf4⟩ := HQ.out
    obtain ⟨he3, h3, ht, hr, hl3, hb3⟩ := H3.out
    have hF := Fx.of_below hb45 h4.le
    refine ⟨h4.below hb45, ht.ext hx4, hx4 _ _ hr, hbd, (mkP_at he1 hl2 hs2 hd_wide hd_right ?_ hbd ?_).keep hF, hdc, by rw [hW5, hpb]; exact heap_alloc_new w4 _, (hb3.trans hf4.below).trans (hb45.mono h4.le), HO.out⟩
    · have : hdL.length = 2 := rfl
      omega
    · have := HO.out
      omega
  have hT5 : T4.length ≤ 13 := by
    have h1 := HQ.out.2.2.2.2.2.2.2.1
    have h2 := H3.out.2.2.2.2.1
    have : hdL.length = 2 := rfl
    omega
  rw [← hW5, ← hpb]
  have HX := Lib.hid h5
  clear hb45 hW5 hpb h5
  refine (HX.out.chk (by omega)).mono ?_
  rintro e w5 ⟨rfl, v5, T5, h5, hl5⟩
  have H5 := Lib.hid h5
  obtain ⟨z0, z1, z2, z3⟩ := h5.cell
  clear h5
  go_wp2_with fail
  refine (H5.out.has (by omega) ⟨#[97]⟩ _ hd_a).mono ?_
  rintro e w6 ⟨rfl, v6, T6, h6, hl6⟩
  have H6 := Lib.hid h6
  clear h6 z0 z1 z2 z3
  go_upto_region 9 with fail
  have hb66 : Below w6.heap.size w6 (w6.alloc (.cells #[.string ⟨#[97]⟩, .string ⟨#[120]⟩, .int .i64 0] 36)) := bl_alloc _ _
  have h66 := H6.out.low hb66
  obtain ⟨z0, z1, z2, z3⟩ := h66.cell
  have H66 := Lib.hid h66
  obtain ⟨W7, hW7⟩ : ∃ W7 : World, W7 = w6.alloc (.cells #[.string ⟨#[97]⟩, .string ⟨#[120]⟩, .int .i64 0] 36) := ⟨_, rfl⟩
  rw [← hW7] at z0 z1 z2 z3 H66 ⊢
  clear hb66 h66 hW7
  go_wp2_with fail
  refine (H66.out.has (by omega) ⟨#[98]⟩ _ hd_b).mono ?_
  rintro e w8 ⟨rfl, v8, T8, h8, hl8⟩
  have H8 := Lib.hid h8
  clear h8 z0 z1 z2 z3
  unfold wrongV
  go_upto_region 10 with fail
  have h99 := H8.out.low (bl_alloc w8 (.cells #[.string ⟨#[]⟩, .string ⟨#[]⟩, .int .i64 0] 36))
  obtain ⟨W9, hW9⟩ : ∃ W9 : World, W9 = w8.alloc (.cells #[.string ⟨#[]⟩, .string ⟨#[]⟩, .int .i64 0] 36) := ⟨_, rfl⟩
  rw [← hW9] at h99 ⊢
  obtain ⟨z0, z1, z2, z3⟩ := h99.cell
  have H9 := Lib.hid h99.below
  have HT := Lib.hid (text62 W9)
  have hm := mk62_eq
  unfold wrongV at HT
  have hd0 : (0 : Int) ≤ (d : Int) := by omega
  clear hW9 h99
  go_wp2_with (go_at_call 14; refine HT.out.mono ?_; rintro e w10 ⟨rfl, hb10⟩; have HB10 := Lib.hid hb10; clear hb10)
  go_ret
  exact ⟨rfl, H9.out.trans (HB10.out.mono H9.out.size)⟩
end Go.Proofs.YtlepjjcnlcnnfaaDoor.Merkle
