/- A book: the document's, in memory. -/
import Derived.Test.YtmpbeopbkllcnaaDoorBkPlain
import Derived.Test.YtmpbeopbkllcnaaDoorTold
import Derived.Test.YtmpbeopbkllcnaaDoorGenq
import Derived.Deep.RegionLaw
namespace Go.Proofs.YtmpbeopbkllcnaaDoor.Book
open Go.RowKit Go.My

def bvals (s : ByteArray) : List Value := s.data.toList.map fun b => .int .u8 (b.toNat : Int)
theorem bvals_len (s : ByteArray) : (bvals s).length = s.size := by
  unfold bvals
  rw [List.length_map, Array.length_toList]
  rfl
theorem bvals_get (s : ByteArray) (i : Nat) (h : i < s.size) : (bvals s)[i]? = some (.int .u8 (s[i].toNat : Int)) := by
  unfold bvals
  have h2 : i < s.data.toList.length := by rw [Array.length_toList]; exact h
  rw [List.getElem?_map, List.getElem?_eq_getElem h2]
  rfl
theorem bvals_one (s : ByteArray) : ∀ u ∈ bvals s, u.oneCell' = true := by
  intro u hu
  obtain ⟨b, _, rfl⟩ := List.mem_map.1 hu
  rfl
/-- bytes that may be copied -/
structure BSrc (w : World) (a : Option Addr) (c : Nat) (s : ByteArray) : Prop where
  bytes : BytesOf w a s
  nil : a = none → c = 0
theorem BSrc.size {w : World} {c : Nat} {s : ByteArray} (h : BSrc w none c s) : s.size = 0 := by
  by_cases h0 : s.size = 0
  · exact h0
  · obtain ⟨g, o, e, _⟩ := h.bytes h0
    cases e
theorem BSrc.below {w w' : World} {a : Option Addr} {c : Nat} {s : ByteArray} (h : BSrc w a c s) (hb : Below w.heap.size w w') : BSrc w' a c s := ⟨h.bytes.below hb, h.nil⟩
theorem BSrc.cells {w : World} {ad : Addr} {c : Nat} {s : ByteArray} (h : BSrc w (some ad) c s) (j : Nat) (u : Value) (hu : (bvals s)[j]? = some u) : w.cell? (ad.add j) = some u := by
  have hj : j < s.size := by rw [← bvals_len]; exact (List.getElem?_eq_some_iff.1 hu).1
  obtain ⟨g, o, e, _, hB⟩ := h.bytes (by omega)
  obtain rfl : ad = ⟨g, o, none⟩ := Option.some.inj e
  rw [Addr.add_lit, hB j hj]
  rw [bvals_get s j hj] at hu
  exact hu
theorem byte_info : (Tryd.prog.info? 5).map (fun i => (i.zero, i.size, i.bytes)) = some (some (.int .u8 0), 1, 1) := by kernel_rfl
theorem row_bytes {w : World} {base g cap : Nat} {s : ByteArray} (h : w.ownsRow base 5 1 (.slice (some ⟨g, 0, none⟩) s.size cap) s.size (bvals s)) : Lib.Bytes w g 0 s := fun i hi => by
  rw [Nat.zero_add, h.cellAt i (by omega), bvals_get s i hi]
theorem own_of_slice {w : World} {base : Nat} {e : TypeId} {c : Nat} {v : Value} {n : Nat} {xs : List Value} (h : w.ownsRow base e c v n xs) (hv : ¬ v = .slice none 0 0) : ∃ g cap, v = .slice (some ⟨g, 0, none⟩) n cap ∧ base ≤ g := by
  rcases h.2 with ⟨h1, _⟩ | ⟨g, cap, _, h1, h2, _⟩
  · exact absurd h1 hv
  · exact ⟨g, cap, h1, h2⟩
/-- 'append([]byte{}, s...)': one operation. -/
theorem wp_append_b {w : World} {o : Oper} {a : Act} {K : Act → World → Prop} {Q : Exit → Act → World → Prop} (s x : Operand)
    (ho : o.op = .call { callee := .builtin .append, args := #[s, x], argTypes := #[56, 56] }) (base g0 : Nat) (hs : a.eval s = .slice (some ⟨g0, 0, none⟩) 0 0) (hg0 : w.heap[g0]? = some (.cells #[] 5 (0, 0))) (hb0 : base ≤ g0)
    (ax : Option Addr) (c : Nat) (M : ByteArray) (hx : a.eval x = .slice ax M.size c) (hsrc : BSrc w ax c M) (hM : M.size ≤ 1000000) (hbase : base ≤ w.heap.size)
    (h : ∀ g cap w', w'.ownsRow base 5 1 (.slice (some ⟨g, 0, none⟩) M.size cap) M.size (bvals M) → w.grownBy w' (some g0) → K (a.put o.dst (.slice (some ⟨g, 0, none⟩) M.size cap)) w') : Oper.wp Tryd.prog o a w K Q := by
  obtain ⟨i0, hi0, hz0, hz1, hz2⟩ := info_parts byte_info
  have hown : w.ownsRow base 5 1 (.slice (some ⟨g0, 0, none⟩) 0 0) 0 [] := ⟨by simp, .inr ⟨g0, 0, #[], rfl, hb0, hg0, Nat.le_refl _, by unfold maxLen; omega, by simp, by simp⟩⟩
  cases ax with
  | none =>
    have hM0 := hsrc.size
    have hc0 := hsrc.nil rfl
    subst hc0
    have hb : bvals M = [] := List.eq_nil_of_length_eq_zero (by rw [bvals_len, hM0])
    rw [hM0] at hx
    have hrun := run_append_owned_none (P := Tryd.prog) (w := w) base 56 o.type 5 i0 1 Tryd.underlying56 hi0 _ 0 [] hown
    have hk := h g0 0 w (by rw [hM0, hb]; exact hown) (World.grownBy.refl w _)
    rw [hM0] at hk
    unfold Oper.wp
    simp [execOp, ho, resolve, invoke, builtin, hs, hx, hrun, Result.andThen]
    exact hk
  | some ad =>
    refine wp_append_own w s x 56 ho base 5 i0 _ 1 1 Tryd.underlying56 hi0 hz0 hz1 hz2 rfl (by decide) _ 0 [] hs hown ad M.size c (bvals M) hx (by rw [bvals_len]; omega) (fun j u hu => hsrc.cells j u hu) (bvals_one M) (by unfold maxLen; omega) (by omega) hbase (fun v' w' h2 h3 h4 => ?_)
    rw [Nat.zero_add, List.nil_append] at h2
    obtain ⟨g, cap, rfl, _⟩ := own_of_slice h2 (fun e => by have := (h4.1 e).1; cases this)
    exact h g cap w' h2 h3
theorem wpList_append_b {w : World} {ops : Array Oper} {rest : List Oper} {o : Oper} {a : Act} {Q : Exit → Act → World → Prop} (hgd : o.guard = none) (s x : Operand)
    (ho : o.op = .call { callee := .builtin .append, args := #[s, x], argTypes := #[56, 56] }) (base g0 : Nat) (hs : a.eval s = .slice (some ⟨g0, 0, none⟩) 0 0) (hg0 : w.heap[g0]? = some (.cells #[] 5 (0, 0))) (hb0 : base ≤ g0)
    (ax : Option Addr) (c : Nat) (M : ByteArray) (hx : a.eval x = .slice ax M.size c) (hsrc : BSrc w ax c M) (hM : M.size ≤ 1000000) (hbase : base ≤ w.heap.size)
    (h : ∀ g cap w', w'.ownsRow base 5 1 (.slice (some ⟨g, 0, none⟩) M.size cap) M.size (bvals M) → w.grownBy w' (some g0) → wpList Tryd.prog ops Q rest (a.put o.dst (.slice (some ⟨g, 0, none⟩) M.size cap)) w') : wpList Tryd.prog ops Q (o :: rest) a w :=
  wpList_plain hgd fun _ hK => wp_append_b s x ho base g0 hs hg0 hb0 ax c M hx hsrc hM hbase fun g cap w' h1 h2 => hK _ _ (h g cap w' h1 h2)
theorem step_append_b {w : World} {ops : Array Oper} {o : Oper} {a : Act} {K : Act → World → Prop} {Q : Exit → Act → World → Prop} {E : Prop} (hgd : o.guard = none) (s x : Operand)
    (ho : o.op = .call { callee := .builtin .append, args := #[s, x], argTypes := #[56, 56] }) (base g0 : Nat) (hs : a.eval s = .slice (some ⟨g0, 0, none⟩) 0 0) (hg0 : w.heap[g0]? = some (.cells #[] 5 (0, 0))) (hb0 : base ≤ g0)
    (ax : Option Addr) (c : Nat) (M : ByteArray) (hx : a.eval x = .slice ax M.size c) (hsrc : BSrc w ax c M) (hM : M.size ≤ 1000000) (hbase : base ≤ w.heap.size)
    (h : ∀ g cap w', w'.ownsRow base 5 1 (.slice (some ⟨g, 0, none⟩) M.size cap) M.size (bvals M) → w.grownBy w' (some g0) → K (a.put o.dst (.slice (some ⟨g, 0, none⟩) M.size cap)) w') : if Region.wanted o (yielded ops a.tmps) = true then Oper.wp Tryd.prog o a w K Q else E := by
  have hw : Region.wanted o (yielded ops a.tmps) = true := by simp [Region.wanted, hgd]
  rw [if_pos hw]
  exact wp_append_b s x ho base g0 hs hg0 hb0 ax c M hx hsrc hM hbase h

/-- bytes of the document's own; x: a block that they do not lie in -/
def RBytes (w : World) (x : Option Nat) (a : Option Addr) (_ : Nat) (s : ByteArray) : Prop :=
  ∃ g, a = some ⟨g, 0, none⟩ ∧ some g ≠ x ∧ (∃ cur, w.heap[g]? = some (.cells cur 5 (0, 0))) ∧ Lib.Bytes w g 0 s
theorem RBytes.src {w : World} {x : Option Nat} {a : Option Addr} {c : Nat} {s : ByteArray} (h : RBytes w x a c s) : BSrc w a c s := by
  obtain ⟨g, rfl, _, ⟨cur, hc⟩, hB⟩ := h
  exact ⟨fun _ => ⟨g, 0, rfl, lt_of_heap hc, hB⟩, fun h => by cases h⟩
theorem RBytes.wrote {w w' : World} {x : Option Nat} {S : List Nat} {a : Option Addr} {c : Nat} {s : ByteArray} (h : RBytes w x a c s) (hw : Wrote S w w') (hS : ∀ k ∈ S, some k = x ∨ ∀ cur, w.heap[k]? ≠ some (.cells cur 5 (0, 0))) : RBytes w' x a c s := by
  obtain ⟨g, rfl, hx, ⟨cur, hc⟩, hB⟩ := h
  have hg : g ∉ S := fun hm => by
    rcases hS g hm with h1 | h1
    · exact hx h1
    · exact h1 cur hc
  exact ⟨g, rfl, hx, ⟨cur, hw.heap hc hg⟩, fun i hi => (hw.cell (p := ⟨g, _, none⟩) (lt_of_heap hc) hg).trans (hB i hi)⟩
theorem RBytes.fresh {w w' : World} {x : Option Nat} {y : Nat} {a : Option Addr} {c : Nat} {s : ByteArray} (h : RBytes w x a c s) (hy : w.heap.size ≤ y) (hb : Below w.heap.size w w') : RBytes w' (some y) a c s := by
  obtain ⟨g, rfl, hx, ⟨cur, hc⟩, hB⟩ := h
  have hl := lt_of_heap hc
  exact ⟨g, rfl, by simp; omega, ⟨cur, (hb.block _ hl).trans hc⟩, fun i hi => (hb.cell (p := ⟨g, _, none⟩) hl).trans (hB i hi)⟩
theorem RBytes.drop {w : World} {x : Option Nat} {a : Option Addr} {c : Nat} {s : ByteArray} (h : RBytes w x a c s) : RBytes w none a c s := by
  obtain ⟨g, rfl, hx, h⟩ := h
  exact ⟨g, rfl, by simp, h⟩

structure RbAt (w : World) (base d : Nat) (x : Option Nat) (v : Value) (ts : List ByteArray) : Prop where
  blk : w.heap[d]? = some (.cells #[v] 55 (0, 0))
  row : ∃ vs, w.ownsRow base 56 1 v ts.length vs ∧ ∀ (i : Nat) s, ts[i]? = some s → ∃ a c, vs[i]? = some (.slice a s.size c) ∧ RBytes w x a c s
  bd : base ≤ d
theorem RbAt.c0 {w : World} {base d : Nat} {x : Option Nat} {v : Value} {ts : List ByteArray} (h : RbAt w base d x v ts) : w.cell? ⟨d, 0, none⟩ = some v := by rw [cell_of_row _ _ _ _ _ _ h.blk]; rfl
theorem RbAt.wrote {w w' : World} {base d : Nat} {x : Option Nat} {v : Value} {ts : List ByteArray} {S : List Nat} (h : RbAt w base d x v ts) (hw : Wrote S w w')
    (hS : ∀ k ∈ S, some k = x ∨ ∀ cur, w.heap[k]? ≠ some (.cells cur 5 (0, 0))) (hT : ∀ k ∈ S, ∀ cur t, w.heap[k]? = some (.cells cur t (0, 0)) → t ≠ 55 ∧ t ≠ 56) : RbAt w' base d x v ts := by
  obtain ⟨vs, hr, ht⟩ := h.row
  refine ⟨hw.heap h.blk fun hm => (hT _ hm _ _ h.blk).1 rfl, ⟨vs, row_wrote hr hw fun g hg hm => ?_, fun i s hi => ?_⟩, h.bd⟩
  · obtain ⟨_, cur, hc⟩ := row_block hr hg
    exact (hT _ hm _ _ hc).2 rfl
  · obtain ⟨a, c, h1, h2⟩ := ht i s hi
    exact ⟨a, c, h1, h2.wrote hw hS⟩
theorem RbAt.below {w w' : World} {base d : Nat} {x : Option Nat} {v : Value} {ts : List ByteArray} (h : RbAt w base d x v ts) (hb : Below w.heap.size w w') : RbAt w' base d x v ts :=
  h.wrote (Wrote.of_below (S := []) hb) (by simp) (by simp)
theorem RbAt.fresh {w w' : World} {base d y : Nat} {x : Option Nat} {v : Value} {ts : List ByteArray} (h : RbAt w base d x v ts) (hy : w.heap.size ≤ y) (hb : Below w.heap.size w w') : RbAt w' base d (some y) v ts := by
  obtain ⟨vs, hr, ht⟩ := h.row
  refine ⟨(hb.block _ (lt_of_heap h.blk)).trans h.blk, ⟨vs, row_below hr hb, fun i s hi => ?_⟩, h.bd⟩
  obtain ⟨a, c, h1, h2⟩ := ht i s hi
  exact ⟨a, c, h1, h2.fresh hy hb⟩
theorem RbAt.drop {w : World} {base d : Nat} {x : Option Nat} {v : Value} {ts : List ByteArray} (h : RbAt w base d x v ts) : RbAt w base d none v ts := by
  obtain ⟨vs, hr, ht⟩ := h.row
  refine ⟨h.blk, ⟨vs, hr, fun i s hi => ?_⟩, h.bd⟩
  obtain ⟨a, c, h1, h2⟩ := ht i s hi
  exact ⟨a, c, h1, h2.drop⟩
/-- a text's slice, where it lies -/
theorem RbAt.at {w : World} {base d : Nat} {x : Option Nat} {a : Option Addr} {n cap : Nat} {ts : List ByteArray} (h : RbAt w base d x (.slice a n cap) ts) {i : Nat} {s : ByteArray} (hi : ts[i]? = some s) :
    ∃ g a2 c2, a = some ⟨g, 0, none⟩ ∧ g < w.heap.size ∧ w.cell? ⟨g, i, none⟩ = some (.slice a2 s.size c2) ∧ RBytes w x a2 c2 s := by
  obtain ⟨vs, hr, ht⟩ := h.row
  obtain ⟨a2, c2, h1, h2⟩ := ht i s hi
  obtain ⟨a', cap', hv, hc⟩ := row_open hr
  obtain ⟨rfl, rfl, rfl⟩ : a = a' ∧ n = ts.length ∧ cap = cap' := by simpa using hv
  obtain ⟨g, rfl, hg, hcell⟩ := hc i _ h1
  exact ⟨g, a2, c2, rfl, hg, hcell, h2⟩
end Go.Proofs.YtmpbeopbkllcnaaDoor.Book
