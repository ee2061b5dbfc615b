/- Locks: the code's locks and the document's, side by side. -/
import Derived.Test.YtfojgghnkjmjhaaDoorLkRef3
import Derived.Test.YtfojgghnkjmjhaaDoorTold
import Derived.Test.YtfojgghnkjmjhaaDoorHnd
namespace Go.Proofs.YtfojgghnkjmjhaaDoor.Locks
open Go.RowKit Go.My

def opO (x : LOp) (ka : Option Addr) (kc : Nat) : Obj := .cells #[.int .i64 x.what, .int .i64 x.who, .slice ka x.keys.length kc] 33
structure PlIn (w : World) (b m base d xb : Nat) (x : LOp) (ka : Option Addr) (kc : Nat) (M L : LMap) (W : World) : Prop where
  lk : LkSt w b m L W
  doc : ∃ v, DkAt W base d v M
  box : W.heap[xb]? = some (opO x ka kc)
  w0 : w.heap.size ≤ base
  size : base ≤ W.heap.size
section
variable {w W W1 : World} {b m base d xb kc : Nat} {x : LOp} {ka : Option Addr} {M L M' L' : LMap}
theorem LocksAt.other {S : List Nat} {w w' : World} (h : LocksAt w b m L) (hw : Wrote S w w') (hb : b ∉ S) (hm : m ∉ S) : LocksAt w' b m L := ⟨hw.heap h.blk hb, h.map.touch hw hm⟩
theorem PlIn.keep (h : PlIn w b m base d xb x ka kc M L W) (hb : Below W.heap.size W W1) : PlIn w b m base d xb x ka kc M L W1 := by
  obtain ⟨v, hd⟩ := h.doc
  exact ⟨h.lk.keep hb, ⟨v, hd.below hb⟩, (hb.block _ (lt_of_heap h.box)).trans h.box, h.w0, Nat.le_trans h.size hb.size⟩
/-- the code's locks turned -/
theorem PlIn.code (h : PlIn w b m base d xb x ka kc M L W) (hl : LkSt w b m L' W1) (hw : Wrote [m] W W1) : PlIn w b m base d xb x ka kc M L' W1 := by
  obtain ⟨v, hd⟩ := h.doc
  have hm := h.lk.at_.map
  refine ⟨hl, ⟨v, hd.other hw ?_ fun g hg hmm => ?_⟩, hw.heap h.box ?_, h.w0, Nat.le_trans h.size hw.size⟩
  · intro hmm
    have e : d = m := by simpa using hmm
    exact hm.ne_cells hd.blk e.symm
  · have e : g = m := by simpa using hmm
    obtain ⟨_, cur, hc⟩ := row_block hd.row hg
    exact hm.ne_cells hc e.symm
  · intro hmm
    have e : xb = m := by simpa using hmm
    exact hm.ne_cells h.box e.symm
/-- the document's turned -/
theorem PlIn.refd (h : PlIn w b m base d xb x ka kc M L W) (hd : ∃ v, DkAt W1 base d v M') (hw : Wrote [d] W W1) : PlIn w b m base d xb x ka kc M' L W1 := by
  obtain ⟨v, hd0⟩ := h.doc
  refine ⟨⟨h.lk.at_.other hw ?_ ?_, h.lk.fine, h.lk.below.trans (hw.below h.lk.below.size fun k hk => ?_), h.lk.m0⟩, hd, hw.heap h.box ?_, h.w0, Nat.le_trans h.size hw.size⟩
  · intro hm
    have e : b = d := by simpa using hm
    subst e
    have := h.lk.at_.blk
    rw [hd0.blk] at this
    cases this
  · intro hm
    have e : m = d := by simpa using hm
    exact h.lk.at_.map.ne_cells hd0.blk e
  · have e : k = d := by simpa using hk
    rw [e]
    exact Nat.le_trans h.w0 hd0.bd
  · intro hm
    have e : xb = d := by simpa using hm
    subst e
    have := h.box
    rw [hd0.blk] at this
    cases this
theorem pin_lock (h : PlIn w b m base d xb x ka kc M L W) (hk : StrsAt w ka x.keys) (hl : x.keys.length ≤ 5000) :
    Calls Tryd.prog 7 #[.pointer (some ⟨b, 0, none⟩), .int .i64 x.who, .slice ka x.keys.length kc] W fun e W' => e = .returned (errV (lockE L x.who x.keys)) ∧ PlIn w b m base d xb x ka kc M (lockL L x.who x.keys) W' :=
  (st_lock2 h.lk x.who ka kc x.keys hk (by omega)).mono fun _ _ ⟨h1, h2, h3⟩ => ⟨h1, h.code h2 h3⟩
theorem pin_unlock (h : PlIn w b m base d xb x ka kc M L W) :
    Calls Tryd.prog 12 #[.pointer (some ⟨b, 0, none⟩), .int .i64 x.who] W fun e W' => e = .returned (.tuple #[]) ∧ PlIn w b m base d xb x ka kc M (unlockL L x.who) W' :=
  (st_unlock2 h.lk x.who).mono fun _ _ ⟨h1, h2, h3⟩ => ⟨h1, h.code h2 h3⟩
theorem pin_rlock (h : PlIn w b m base d xb x ka kc M L' W) (hk : StrsAt w ka x.keys) (hl : x.keys.length ≤ 5000) (hD : Doc M L) (hF : Fine L) :
    Calls Tryd.prog 8 #[.pointer (some ⟨d, 0, none⟩), .int .i64 x.who, .slice ka x.keys.length kc] W fun e W' => e = .returned (stepV (lockE L x.who x.keys)) ∧ PlIn w b m base d xb x ka kc (lockM M L x.who x.keys) L' W' := by
  obtain ⟨v, hd⟩ := h.doc
  exact (rlock_any base d v M L x.who ka kc x.keys W hd hD hF (hk.below h.lk.below) hl h.size).mono fun _ _ ⟨h1, h2, h3⟩ => ⟨h1, h.refd h2 h3⟩
theorem pin_runlock (h : PlIn w b m base d xb x ka kc M L' W) (hl : M.length ≤ 10000) :
    Calls Tryd.prog 13 #[.pointer (some ⟨d, 0, none⟩), .int .i64 x.who] W fun e W' => e = .returned (.tuple #[]) ∧ PlIn w b m base d xb x ka kc (unlockL M x.who) L' W' := by
  obtain ⟨v, hd⟩ := h.doc
  exact (runlock_any base d v M x.who W hd hl h.size).mono fun _ _ ⟨h1, h2, h3⟩ => ⟨h1, h.refd h2 h3⟩
theorem pin_any (h : PlIn w b m base d xb x ka kc M L W) (fr tk : ByteArray) :
    Calls Tryd.prog 14 #[.pointer (some ⟨b, 0, none⟩), .string fr, .string tk] W fun e W' => e = .returned (.bool (anyK L fr tk)) ∧ Below W.heap.size W W' := any_any b m L fr tk W h.lk.at_
theorem pin_rany (h : PlIn w b m base d xb x ka kc M L W) (hl : M.length ≤ 10000) (fr tk : ByteArray) :
    Calls Tryd.prog 15 #[.pointer (some ⟨d, 0, none⟩), .string fr, .string tk] W fun e W' => e = .returned (.bool (anyK M fr tk)) ∧ W = W' := by
  obtain ⟨v, hd⟩ := h.doc
  exact rany_any base d v M fr tk W hd hl
theorem pin_keys (h : PlIn w b m base d xb x ka kc M L W) (who : Int) :
    Calls Tryd.prog 16 #[.pointer (some ⟨b, 0, none⟩), .int .i64 who] W fun e W' => ∃ a cap, e = .returned (.slice a (keysOf L who).length cap) ∧ StrsAt W' a (keysOf L who) ∧ Below W.heap.size W W' :=
  (st_keys h.lk who).mono fun _ _ ⟨a, cap, h1, h2, _, h4⟩ => ⟨a, cap, h1, h2.1, h4⟩
theorem pin_rkeys (h : PlIn w b m base d xb x ka kc M L W) (hD : Doc M L) (who : Int) :
    Calls Tryd.prog 17 #[.pointer (some ⟨d, 0, none⟩), .int .i64 who] W fun e W' => ∃ a cap, e = .returned (.slice a (keysOf L who).length cap) ∧ StrsAt W' a (keysOf L who) ∧ Below W.heap.size W W' := by
  obtain ⟨v, hd⟩ := h.doc
  refine (rkeys_any base d v M who W hd (by have := hD.len; have := h.lk.fine.small; omega)).mono ?_
  rintro e W' ⟨a, cap, h1, h2, h3⟩
  have e1 : selK M who = keysOf L who := doc_keys hD h.lk.fine who
  rw [e1] at h1 h2
  exact ⟨a, cap, h1, h2, h3⟩
theorem pin_holder (h : PlIn w b m base d xb x ka kc M L W) (k : ByteArray) :
    Calls Tryd.prog 20 #[.pointer (some ⟨b, 0, none⟩), .string k] W fun e W' => e = .returned (.tuple #[.int .i64 (heldI L k), .bool (heldB L k)]) ∧ W = W' := holder_any b m L k W h.lk.at_
theorem pin_rholder (h : PlIn w b m base d xb x ka kc M L W) (hD : Doc M L) (k : ByteArray) :
    Calls Tryd.prog 21 #[.pointer (some ⟨d, 0, none⟩), .string k] W fun e W' => e = .returned (.tuple #[.int .i64 (heldI L k), .bool (heldB L k)]) ∧ W = W' := by
  obtain ⟨v, hd⟩ := h.doc
  have := rholder_any base d v M k W hd (by have := hD.len; have := h.lk.fine.small; omega)
  have e : heldI M k = heldI L k ∧ heldB M k = heldB L k := by unfold heldI heldB; rw [hD.aget]; exact ⟨rfl, rfl⟩
  rwa [e.1, e.2] at this
theorem pin_c (h : PlIn w b m base d xb x ka kc M L W) : W.cell? ⟨xb, 0, none⟩ = some (.int .i64 x.what) ∧ W.cell? ⟨xb, 1, none⟩ = some (.int .i64 x.who) ∧ W.cell? ⟨xb, 2, none⟩ = some (.slice ka x.keys.length kc) ∧ xb < W.heap.size :=
  ⟨by rw [cell_of_row _ _ _ _ _ _ h.box]; rfl, by rw [cell_of_row _ _ _ _ _ _ h.box]; rfl, by rw [cell_of_row _ _ _ _ _ _ h.box]; rfl, lt_of_heap h.box⟩
theorem pin_dc (h : PlIn w b m base d xb x ka kc M L W) : ∃ a cap, W.cell? ⟨d, 0, none⟩ = some (.slice a M.length cap) ∧ d < W.heap.size := by
  obtain ⟨v, hd⟩ := h.doc
  obtain ⟨a, cap, rfl, _⟩ := hd.lies
  exact ⟨a, cap, hd.c0, lt_of_heap hd.blk⟩
end
theorem wrap_err (n c : Int) : wrapV c n = errOf n [(lockW, c)] := rfl
theorem trail1 (n : Int) (s : StepT) (W : World) (hg : TypeIs W) : Calls Tryd.prog 11 #[errOf n [s]] W fun e w' => ∃ ra rc, e = .returned (.slice ra 1 rc) ∧ Lies w' ra 2 stepL [s] ∧ Below W.heap.size W w' := by
  refine (trail_of n [s] W hg (by simp)).mono ?_
  rintro e w' ⟨u, rfl, hrow, hb⟩
  obtain ⟨ra, rc, rfl, -⟩ := row_form hrow
  exact ⟨ra, rc, rfl, row_lies (n := 1) hrow (fun _ => rfl) rfl, hb⟩
end Go.Proofs.YtfojgghnkjmjhaaDoor.Locks
