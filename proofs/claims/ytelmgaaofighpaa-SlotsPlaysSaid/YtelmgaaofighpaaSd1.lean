/- The document's open numbers: how they lie; Find, Open, Accept, Decide, Enter. -/
import Derived.Test.YtelmgaaofighpaaSame
import Derived.Test.YtelmgaaofighpaaPl
import Derived.Test.YtelmgaaofighpaaDoes
import Derived.Test.YtelmgaaofighpaaLies
import Derived.Maps.AppendAt
import Derived.BigQuiet
namespace Go.Proofs.Ytelmgaaofighpaa
open Go.RowKit Go.My Go.My.Slots

def isL (p : Int × Int) : List Value := [.int .i64 p.1, .int .i64 p.2]
def voL (p : (Int × Int × Int) × Int) : List Value := [.int .i64 p.1.1, .int .i64 p.1.2.1, .int .i64 p.1.2.2, .int .i64 p.2]
theorem isL_len (p : Int × Int) : (isL p).length = 2 := rfl
theorem voL_len (p : (Int × Int × Int) × Int) : (voL p).length = 4 := rfl
structure Dv where
  T : Value
  V : Value
  P : Value
  D : Value
structure DocAt (w : World) (base d : Nat) (v : Dv) (s : St) : Prop where
  lo : base ≤ d
  cell : w.heap[d]? = some (.cells #[.int .i64 s.low, .int .i64 s.view, v.T, v.V, v.P, v.D] 50 (0, 0))
  T : w.ownsRow base 74 2 v.T s.acc.length (s.acc.flatMap isL)
  V : w.ownsRow base 76 4 v.V s.votes.length (s.votes.flatMap voL)
  P : w.ownsRow base 44 6 v.P (proofsL s).length ((proofsL s).flatMap prepL)
  D : w.ownsRow base 74 2 v.D s.dec.length (s.dec.flatMap isL)
  ap : ∀ g, v.T.ownBlock = some g → v.D.ownBlock ≠ some g
section
variable {w w' W : World} {base d : Nat} {v : Dv} {s : St}
theorem DocAt.lt (h : DocAt w base d v s) : d < w.heap.size := lt_of_heap h.cell
theorem DocAt.other {S : List Nat} (h : DocAt w base d v s) (hw : Wrote S w w') (hS : ∀ k ∈ S, k < base) : DocAt w' base d v s := by
  have no : ∀ {e : TypeId} {c : Nat} {x : Value} {n : Nat} {xs : List Value}, w.ownsRow base e c x n xs → ∀ g, x.ownBlock = some g → g ∉ S := fun hr g hg hm => by
    have h1 := (row_block hr hg).1
    have h2 := hS g hm
    omega
  exact ⟨h.lo, hw.heap h.cell (fun hm => by have := hS d hm; have := h.lo; omega), row_wrote h.T hw (no h.T), row_wrote h.V hw (no h.V), row_wrote h.P hw (no h.P), row_wrote h.D hw (no h.D), h.ap⟩
theorem DocAt.below (h : DocAt w base d v s) (hb : Below w.heap.size w w') : DocAt w' base d v s := h.other (S := []) (Wrote.of_below hb) (by simp)
theorem DocAt.ne {e : TypeId} {c : Nat} {x : Value} {n : Nat} {xs : List Value} (h : DocAt w base d v s) (hr : w.ownsRow base e c x n xs) (he : e ≠ 50) : ∀ g, x.ownBlock = some g → g ≠ d := fun g hg e' => by
  obtain ⟨_, cur, h1⟩ := row_block hr hg
  rw [e', h.cell] at h1
  injection h1 with h1
  injection h1 with _ h2
  exact he h2.symm
theorem DocAt.cells (h : DocAt w base d v s) : w.cell? ⟨d, 0, none⟩ = some (.int .i64 s.low) ∧ w.cell? ⟨d, 1, none⟩ = some (.int .i64 s.view) ∧ w.cell? ⟨d, 2, none⟩ = some v.T ∧ w.cell? ⟨d, 3, none⟩ = some v.V ∧ w.cell? ⟨d, 4, none⟩ = some v.P ∧ w.cell? ⟨d, 5, none⟩ = some v.D := by
  refine ⟨?_, ?_, ?_, ?_, ?_, ?_⟩ <;> rw [cell_of_row _ _ _ _ _ _ h.cell] <;> rfl
theorem DocAt.fz (h : DocAt w base d v s) (i : Nat) : w.frozen? ⟨d, i, none⟩ = false := by simp [World.frozen?, h.cell]
theorem DocAt.lT (h : DocAt w base d v s) : ∃ a cap, v.T = .slice a s.acc.length cap ∧ LiesAt w a 2 isL s.acc := by
  obtain ⟨a, cap, e, _⟩ := row_form h.T
  have := h.T
  rw [e] at this
  exact ⟨a, cap, e, row_liesAt this isL_len rfl⟩
theorem DocAt.lD (h : DocAt w base d v s) : ∃ a cap, v.D = .slice a s.dec.length cap ∧ LiesAt w a 2 isL s.dec := by
  obtain ⟨a, cap, e, _⟩ := row_form h.D
  have := h.D
  rw [e] at this
  exact ⟨a, cap, e, row_liesAt this isL_len rfl⟩
theorem DocAt.lV (h : DocAt w base d v s) : ∃ a cap, v.V = .slice a s.votes.length cap ∧ LiesAt w a 4 voL s.votes := by
  obtain ⟨a, cap, e, _⟩ := row_form h.V
  have := h.V
  rw [e] at this
  exact ⟨a, cap, e, row_liesAt this voL_len rfl⟩
theorem DocAt.lP (h : DocAt w base d v s) : ∃ a cap, v.P = .slice a (proofsL s).length cap ∧ LiesAt w a 6 prepL (proofsL s) := by
  obtain ⟨a, cap, e, _⟩ := row_form h.P
  have := h.P
  rw [e] at this
  exact ⟨a, cap, e, row_liesAt this prepL_len rfl⟩
/-- a field of the document's is set -/
theorem row_set {e : TypeId} {c : Nat} {x : Value} {n : Nat} {xs : List Value} {i : Nat} {u : Value} (hr : W.ownsRow base e c x n xs) (hn : ∀ g, x.ownBlock = some g → g ≠ d) : (W.setCell ⟨d, i, none⟩ u).ownsRow base e c x n xs :=
  row_wrote hr ((Wrote.refl [d] W).setCell (.inl (List.mem_singleton.2 rfl)) _) fun g hg hm => hn g hg (by simpa using hm)
/-- what a call of the document's keeps: the blocks older than its own, and the calls that lie boxed -/
structure Bk (base : Nat) (w w' : World) : Prop where
  b : Below base w w'
  op : ∀ (k : Nat) (cs : Array Value), w.heap[k]? = some (Obj.cells cs 28 (0, 0)) → w'.heap[k]? = some (Obj.cells cs 28 (0, 0))
theorem Bk.refl (base : Nat) (w : World) : Bk base w w := ⟨Below.refl _ _, fun _ _ h => h⟩
theorem Bk.trans {w'' : World} (h : Bk base w w') (k : Bk base w' w'') : Bk base w w'' := ⟨h.b.trans k.b, fun i cs hi => k.op i cs (h.op i cs hi)⟩
theorem Bk.of_below (hb : Below w.heap.size w w') (hN : base ≤ w.heap.size) : Bk base w w' := ⟨hb.mono hN, fun k _ hk => (hb.block k (lt_of_heap hk)).trans hk⟩
theorem Bk.of_wrote {S : List Nat} (h : Wrote S w w') (hN : base ≤ w.heap.size) (hS : ∀ k ∈ S, base ≤ k) (hO : ∀ k ∈ S, ∀ cs : Array Value, w.heap[k]? ≠ some (Obj.cells cs 28 (0, 0))) : Bk base w w' :=
  ⟨h.below hN hS, fun k cs hk => h.heap hk fun hm => hO k hm cs hk⟩
theorem DocAt.noop (h : DocAt w base d v s) (cs : Array Value) : w.heap[d]? ≠ some (Obj.cells cs 28 (0, 0)) := fun e => by
  rw [h.cell] at e
  injection e with e
  injection e with _ e
  exact absurd e (by decide)
theorem row_noop {e : TypeId} {c : Nat} {x : Value} {n : Nat} {xs : List Value} (hr : w.ownsRow base e c x n xs) (he : e ≠ 28) {g : Nat} (hg : x.ownBlock = some g) (cs : Array Value) : w.heap[g]? ≠ some (Obj.cells cs 28 (0, 0)) := fun e' => by
  obtain ⟨_, cur, h1⟩ := row_block hr hg
  rw [h1] at e'
  injection e' with e'
  injection e' with _ e'
  exact he e'
/-- what a call of the document's leaves -/
def DocL (w : World) (base d : Nat) (b : Bool) (s' : St) (e : Ending) (w' : World) : Prop := e = .returned (.bool b) ∧ (∃ v', DocAt w' base d v' s') ∧ Bk base w w'
theorem DocL.same {b : Bool} (h : DocAt w base d v s) : DocL w base d b s (.returned (.bool b)) w := ⟨rfl, ⟨v, h⟩, Bk.refl _ _⟩

theorem DocAt.putT {w3 : World} {x : Value} {l : List (Int × Int)} (h : DocAt w base d v s) (ob : Obj) (hown : w3.ownsRow base 74 2 x l.length (l.flatMap isL)) (hg : (w.alloc ob).grownBy w3 v.T.ownBlock) (hat : x.ownBlock = v.T.ownBlock ∨ x.ownBlock = some (w.heap.size + 1)) :
    DocAt (w3.setCell ⟨d, 2, none⟩ x) base d { v with T := x } { s with acc := l } ∧ Bk base w (w3.setCell ⟨d, 2, none⟩ x) := by
  have hw : Wrote v.T.ownBlock.toList w w3 := ((Wrote.refl _ w).alloc ob).trans (Wrote.of_grown hg)
  have hd3 : w3.heap[d]? = some (.cells #[.int .i64 s.low, .int .i64 s.view, v.T, v.V, v.P, v.D] 50 (0, 0)) := hw.heap h.cell fun hm => h.ne h.T (by decide) d (by simpa using hm) rfl
  have hx : ∀ g, x.ownBlock = some g → g ≠ d := fun g hg' => by
    rcases hat with h1 | h1
    · exact h.ne h.T (by decide) g (by rw [← h1]; exact hg')
    · have h2 := h.lt
      rw [h1] at hg'
      have e : w.heap.size + 1 = g := by simpa using hg'
      omega
  have keep : ∀ {e : TypeId} {c : Nat} {y : Value} {n : Nat} {xs : List Value}, w.ownsRow base e c y n xs → e ≠ 50 → (∀ g, y.ownBlock = some g → v.T.ownBlock ≠ some g) → (w3.setCell ⟨d, 2, none⟩ x).ownsRow base e c y n xs := fun hr he hn =>
    row_set (row_wrote hr hw fun g hg' hm => hn g hg' (by simpa using hm)) (h.ne hr he)
  refine ⟨⟨h.lo, heap_setCell_same _ d 2 _ _ _ hd3, row_set hown hx, keep h.V (by decide) (fun g hg' hF => rows_apart h.V h.T (by decide) hg' hF), keep h.P (by decide) (fun g hg' hF => rows_apart h.P h.T (by decide) hg' hF), keep h.D (by decide) (fun g hg' hF => h.ap g hF hg'), ?_⟩, ?_⟩
  · intro g hg' hD
    rcases hat with h1 | h1
    · exact h.ap g (by rw [← h1]; exact hg') hD
    · have h2 := (row_block h.D hD).2
      obtain ⟨cur, h2⟩ := h2
      have h4 := lt_of_heap h2
      have e : w.heap.size + 1 = g := by simpa using h1.symm.trans hg'
      omega
  · refine Bk.of_wrote ((hw.mono (T := d :: v.T.ownBlock.toList) fun k hk => List.mem_cons_of_mem _ hk).setCell (p := ⟨d, 2, none⟩) (.inl (List.mem_cons_self ..)) x) (Nat.le_trans h.lo (Nat.le_of_lt h.lt)) (fun k hk => ?_) fun k hk cs => ?_
    · rcases List.mem_cons.1 hk with rfl | hk
      · exact h.lo
      · exact (row_block h.T (by simpa using hk)).1
    · rcases List.mem_cons.1 hk with rfl | hk
      · exact h.noop cs
      · exact row_noop h.T (by decide) (by simpa using hk) cs

theorem DocAt.putD {w3 : World} {x : Value} {l : List (Int × Int)} (h : DocAt w base d v s) (ob : Obj) (hown : w3.ownsRow base 74 2 x l.length (l.flatMap isL)) (hg : (w.alloc ob).grownBy w3 v.D.ownBlock) (hat : x.ownBlock = v.D.ownBlock ∨ x.ownBlock = some (w.heap.size + 1)) :
    DocAt (w3.setCell ⟨d, 5, none⟩ x) base d { v with D := x } { s with dec := l } ∧ Bk base w (w3.setCell ⟨d, 5, none⟩ x) := by
  have hw : Wrote v.D.ownBlock.toList w w3 := ((Wrote.refl _ w).alloc ob).trans (Wrote.of_grown hg)
  have hd3 : w3.heap[d]? = some (.cells #[.int .i64 s.low, .int .i64 s.view, v.T, v.V, v.P, v.D] 50 (0, 0)) := hw.heap h.cell fun hm => h.ne h.D (by decide) d (by simpa using hm) rfl
  have hx : ∀ g, x.ownBlock = some g → g ≠ d := fun g hg' => by
    rcases hat with h1 | h1
    · exact h.ne h.D (by decide) g (by rw [← h1]; exact hg')
    · have h2 := h.lt
      rw [h1] at hg'
      have e : w.heap.size + 1 = g := by simpa using hg'
      omega
  have keep : ∀ {e : TypeId} {c : Nat} {y : Value} {n : Nat} {xs : List Value}, w.ownsRow base e c y n xs → e ≠ 50 → (∀ g, y.ownBlock = some g → v.D.ownBlock ≠ some g) → (w3.setCell ⟨d, 5, none⟩ x).ownsRow base e c y n xs := fun hr he hn =>
    row_set (row_wrote hr hw fun g hg' hm => hn g hg' (by simpa using hm)) (h.ne hr he)
  refine ⟨⟨h.lo, heap_setCell_same _ d 5 _ _ _ hd3, keep h.T (by decide) (fun g hg' hF => h.ap g hg' hF), keep h.V (by decide) (fun g hg' hF => rows_apart h.V h.D (by decide) hg' hF), keep h.P (by decide) (fun g hg' hF => rows_apart h.P h.D (by decide) hg' hF), row_set hown hx, ?_⟩, ?_⟩
  · intro g hT hg'
    rcases hat with h1 | h1
    · exact h.ap g hT (by rw [← h1]; exact hg')
    · have h2 := (row_block h.T hT).2
      obtain ⟨cur, h2⟩ := h2
      have h4 := lt_of_heap h2
      have e : w.heap.size + 1 = g := by simpa using h1.symm.trans hg'
      omega
  · refine Bk.of_wrote ((hw.mono (T := d :: v.D.ownBlock.toList) fun k hk => List.mem_cons_of_mem _ hk).setCell (p := ⟨d, 5, none⟩) (.inl (List.mem_cons_self ..)) x) (Nat.le_trans h.lo (Nat.le_of_lt h.lt)) (fun k hk => ?_) fun k hk cs => ?_
    · rcases List.mem_cons.1 hk with rfl | hk
      · exact h.lo
      · exact (row_block h.D (by simpa using hk)).1
    · rcases List.mem_cons.1 hk with rfl | hk
      · exact h.noop cs
      · exact row_noop h.D (by decide) (by simpa using hk) cs

theorem DocAt.putV {w3 : World} {x : Value} {l : List ((Int × Int × Int) × Int)} (h : DocAt w base d v s) (ob : Obj) (hown : w3.ownsRow base 76 4 x l.length (l.flatMap voL)) (hg : (w.alloc ob).grownBy w3 v.V.ownBlock) (hat : x.ownBlock = v.V.ownBlock ∨ x.ownBlock = some (w.heap.size + 1)) :
    DocAt (w3.setCell ⟨d, 3, none⟩ x) base d { v with V := x } { s with votes := l } ∧ Bk base w (w3.setCell ⟨d, 3, none⟩ x) := by
  have hw : Wrote v.V.ownBlock.toList w w3 := ((Wrote.refl _ w).alloc ob).trans (Wrote.of_grown hg)
  have hd3 : w3.heap[d]? = some (.cells #[.int .i64 s.low, .int .i64 s.view, v.T, v.V, v.P, v.D] 50 (0, 0)) := hw.heap h.cell fun hm => h.ne h.V (by decide) d (by simpa using hm) rfl
  have hx : ∀ g, x.ownBlock = some g → g ≠ d := fun g hg' => by
    rcases hat with h1 | h1
    · exact h.ne h.V (by decide) g (by rw [← h1]; exact hg')
    · have h2 := h.lt
      rw [h1] at hg'
      have e : w.heap.size + 1 = g := by simpa using hg'
      omega
  have keep : ∀ {e : TypeId} {c : Nat} {y : Value} {n : Nat} {xs : List Value}, w.ownsRow base e c y n xs → e ≠ 50 → (∀ g, y.ownBlock = some g → v.V.ownBlock ≠ some g) → (w3.setCell ⟨d, 3, none⟩ x).ownsRow base e c y n xs := fun hr he hn =>
    row_set (row_wrote hr hw fun g hg' hm => hn g hg' (by simpa using hm)) (h.ne hr he)
  refine ⟨⟨h.lo, heap_setCell_same _ d 3 _ _ _ hd3, keep h.T (by decide) (fun g hg' hF => rows_apart h.T h.V (by decide) hg' hF), row_set hown hx, keep h.P (by decide) (fun g hg' hF => rows_apart h.P h.V (by decide) hg' hF), keep h.D (by decide) (fun g hg' hF => rows_apart h.D h.V (by decide) hg' hF), h.ap⟩, ?_⟩
  · refine Bk.of_wrote ((hw.mono (T := d :: v.V.ownBlock.toList) fun k hk => List.mem_cons_of_mem _ hk).setCell (p := ⟨d, 3, none⟩) (.inl (List.mem_cons_self ..)) x) (Nat.le_trans h.lo (Nat.le_of_lt h.lt)) (fun k hk => ?_) fun k hk cs => ?_
    · rcases List.mem_cons.1 hk with rfl | hk
      · exact h.lo
      · exact (row_block h.V (by simpa using hk)).1
    · rcases List.mem_cons.1 hk with rfl | hk
      · exact h.noop cs
      · exact row_noop h.V (by decide) (by simpa using hk) cs
end
theorem aput_same {K V : Type} [DecidableEq K] : ∀ {l : List (K × V)} {k : K} {x : V}, aget l k = some x → aput l k x = l
  | [], _, _, h => by cases h
  | p :: l, k, x, h => by
    rw [aget_cons] at h
    unfold aput
    by_cases hk : p.1 = k
    · rw [if_pos hk] at h
      cases h
      simp [hk]
      rw [← hk]
    · rw [if_neg hk] at h
      simp only [beq_iff_eq, if_neg hk]
      rw [aput_same h]
theorem onceB_open {s : St} {m : List (Int × Int)} {n dg : Int} (h : openB s n = false) : onceB s m n dg = false := by unfold onceB; rw [h]; rfl
theorem onceB_neg {s : St} {m : List (Int × Int)} {n dg : Int} (h : dg < 0) : onceB s m n dg = false := by
  unfold onceB
  rw [show decide (0 ≤ dg) = false from decide_eq_false (by omega), Bool.and_false, Bool.false_and]
theorem onceB_none {s : St} {m : List (Int × Int)} {n dg : Int} (h : openB s n = true) (hd : ¬ dg < 0) (hg : aget m n = none) : onceB s m n dg = true := by
  unfold onceB
  rw [h, hg, show decide (0 ≤ dg) = true from decide_eq_true (by omega)]
  rfl
theorem onceB_some {s : St} {m : List (Int × Int)} {n dg x : Int} (h : openB s n = true) (hd : ¬ dg < 0) (hg : aget m n = some x) : onceB s m n dg = decide (x = dg) := by
  unfold onceB
  rw [h, hg, show decide (0 ≤ dg) = true from decide_eq_true (by omega)]
  rfl
set_option maxRecDepth 100000 in
set_option maxHeartbeats 1600000 in
theorem find_any (a : Option Addr) (cap : Nat) (l : List (Int × Int)) (k : Int) (w : World) (h : LiesAt w a 2 isL l) (hl : l.length ≤ 100000) :
    Calls Try.prog 22 #[.slice a l.length cap, .int .i64 k] w fun e w' => e = .returned (.tuple #[.int .i64 ((aget l k).getD 0), .bool (aget l k).isSome]) ∧ w' = w := by
  have HL := Lib.hid h
  obtain ⟨n, hn⟩ : ∃ n, n = l.length := ⟨_, rfl⟩
  have HN := Lib.hid hn
  rw [← hn] at hl ⊢
  have hn9 : (n : Int) ≤ 100000 := by omega
  have P0 : Hid (aget l k = aget (l.drop 0) k) := by show _ = _; rw [List.drop_zero]
  obtain ⟨q, hq⟩ : ∃ q, q = aget l k := ⟨_, rfl⟩
  rw [← hq] at P0 ⊢
  clear h hn hl hq
  go_enter Try.func22, Try.ntmps22
  go_wp2_with fail
  go_loopw [6] (fun i W => ∃ j : Nat, j ≤ n ∧ i = .int .i64 j ∧ W = w ∧ Hid (q = aget (l.drop j) k)) (fun i _ => n - (intOf i).toNat)
  case atStart => exact ⟨0, by omega, rfl, rfl, P0⟩
  case round =>
    clear P0
    obtain ⟨j, hj, rfl, rfl, HJ⟩ := hrel
    by_cases hlt : j < n
    · obtain ⟨⟨xn, xd⟩, hx⟩ : ∃ x, l[j]? = some x := ⟨_, List.getElem?_eq_getElem (by rw [← HN.out]; exact hlt)⟩
      have hdr : l.drop j = (xn, xd) :: l.drop (j + 1) := by
        obtain ⟨hi, e⟩ := List.getElem?_eq_some_iff.1 hx
        rw [← e]
        exact List.drop_eq_getElem_cons hi
      have hq := HJ.out
      rw [hdr, aget_cons] at hq
      obtain ⟨g, o, rfl, lg, hc⟩ := HL.out j _ hx
      have d0 : wr.cell? ⟨g, o + j * 2, none⟩ = some (.int .i64 xn) := hc 0 _ rfl
      have d1 : wr.cell? ⟨g, o + j * 2 + 1, none⟩ = some (.int .i64 xd) := hc 1 _ rfl
      have hj0 : (0 : Int) ≤ (j : Int) := by omega
      have hj1 : (j : Int) < (n : Int) := by omega
      clear hx hc lg hdr
      by_cases hk : xn = k
      · have hkk : (xn == k) = true := by simpa using hk
        rw [if_pos hk] at hq
        have HQ := Lib.hid hq
        clear hk hq HJ
        go_wp2_with fail
        go_ret2
        exact ⟨by rw [HQ.out]; rfl, rfl⟩
      · have hkk : (xn == k) = false := by simpa using hk
        rw [if_neg hk] at hq
        have HQ := Lib.hid hq
        clear hk hq HJ
        go_wp2_with fail
        exact ⟨⟨j + 1, by omega, by simp, trivial, HQ⟩, by simp [intOf]; omega⟩
    · obtain rfl : n = j := by omega
      have HQ : Hid (q = none) := by
        show _ = _
        rw [HJ.out, List.drop_of_length_le (by rw [← HN.out]; exact Nat.le_refl _)]
        rfl
      clear HJ
      go_wp2_with fail
      go_ret2
      exact ⟨by rw [HQ.out]; rfl, rfl⟩
set_option maxRecDepth 100000 in
theorem dopen_any (base d : Nat) (v : Dv) (s : St) (n : Int) (w : World) (h : DocAt w base d v s) (hi : Inv s) :
    Calls Try.prog 41 #[.pointer (some ⟨d, 0, none⟩), .int .i64 n] w fun e w' => e = .returned (.bool (openB s n)) ∧ w' = w := by
  obtain ⟨c0, c1, c2, c3, c4, c5⟩ := h.cells
  have ld := h.lt
  have HB : Hid (openB s n = (decide (s.low < n) && decide (n ≤ s.low + 16))) := by
    show _ = _
    unfold openB
    congr 1
    apply Bool.eq_iff_iff.2
    simp only [decide_eq_true_eq]
    omega
  obtain ⟨b, hb⟩ : ∃ b, b = openB s n := ⟨_, rfl⟩
  rw [← hb] at HB ⊢
  obtain ⟨low, hlow⟩ : ∃ z, z = s.low := ⟨_, rfl⟩
  have h0 := hi.low0
  have h1 := hi.low1
  rw [← hlow] at HB c0 h0 h1
  have hw : IntKind.i64.wrap (low + 16) = low + 16 := IntWalk.i64_in _ (by omega)
  clear h hi hb hlow c1 c2 c3 c4 c5 h0 h1
  by_cases hl : low < n
  · have HV : Hid (b = decide (n ≤ low + 16)) := by show _ = _; rw [HB.out, decide_eq_true hl, Bool.true_and]
    clear HB
    go_enter Try.func41, Try.ntmps41
    go_wp2_with fail
    go_ret
    exact ⟨by rw [HV.out]; rfl, rfl⟩
  · have HV : Hid (b = false) := by show _ = _; rw [HB.out, decide_eq_false hl, Bool.false_and]
    clear HB
    go_enter Try.func41, Try.ntmps41
    go_wp2_with fail
    go_ret
    exact ⟨by rw [HV.out]; rfl, rfl⟩
theorem is_one (p : Int × Int) : ∀ u ∈ isL p, u.oneCell' = true := by
  intro u hu
  simp only [isL, List.mem_cons, List.not_mem_nil, or_false] at hu
  rcases hu with rfl | rfl <;> rfl
theorem is_cells (w : World) (p : Int × Int) (t : TypeId) (j : Nat) (u : Value) (h : (isL p)[j]? = some u) : (w.alloc (.cells #[.int .i64 p.1, .int .i64 p.2] t)).cell? ((⟨w.heap.size, 0, none⟩ : Addr).add j) = some u := by
  rw [Addr.add_lit, Nat.zero_add, cell_of_row _ _ _ _ _ _ (heap_alloc_new w _)]
  simpa [isL] using h
theorem is_info : (Try.prog.info? 74).map (fun i => (i.zero, i.size, i.bytes)) = some (some (.agg #[.int .i64 0, .int .i64 0]), 2, 16) := by kernel_rfl

set_option maxRecDepth 100000 in
set_option maxHeartbeats 1600000 in
theorem daccept_any (base d : Nat) (v : Dv) (s : St) (n dg : Int) (w : World) (h : DocAt w base d v s) (hi : Inv s) (hl : s.acc.length ≤ 10000) :
    Calls Try.prog 35 #[.pointer (some ⟨d, 0, none⟩), .int .i64 n, .int .i64 dg] w (DocL w base d (onceB s s.acc n dg) (accept s n dg)) := by
  obtain ⟨i0, hi0, hz0, hz1, hz2⟩ := info_parts is_info
  have HI := Lib.hid hi0
  have HZ := Lib.hid hz0
  have HS := Lib.hid hz1
  have HY := Lib.hid hz2
  obtain ⟨a, cap, hv, hlies⟩ := h.lT
  have HF := Lib.hid (find_any a cap s.acc n w hlies (by omega))
  have HO := Lib.hid (dopen_any base d v s n w h hi)
  obtain ⟨c0, c1, c2, c3, c4, c5⟩ := h.cells
  have ld := h.lt
  have hfz := h.fz 2
  have H := Lib.hid h
  have HL := Lib.hid hl
  obtain ⟨m, hm⟩ : ∃ m, m = s.acc.length := ⟨_, rfl⟩
  rw [← hm] at HF hv
  rw [hv] at c2
  obtain ⟨b, hb⟩ : ∃ b, b = onceB s s.acc n dg := ⟨_, rfl⟩
  obtain ⟨s', hs'⟩ : ∃ z, z = accept s n dg := ⟨_, rfl⟩
  have HBS : Hid (b = onceB s s.acc n dg ∧ s' = accept s n dg) := ⟨hb, hs'⟩
  obtain ⟨op, hop⟩ : ∃ b, b = openB s n := ⟨_, rfl⟩
  rw [← hop] at HO
  have HOP := Lib.hid hop
  obtain ⟨q, hq⟩ : ∃ z, z = aget s.acc n := ⟨_, rfl⟩
  rw [← hq] at HF
  have HQ := Lib.hid hq
  have HMV : Hid (m = s.acc.length ∧ v.T = .slice a m cap) := ⟨hm, hv⟩
  have HNO : Hid (onceB s s.acc n dg = false → DocL w base d b s' (.returned (.bool false)) w) := fun hf => by
    have e2 : s' = s := by
      rw [HBS.out.2]
      show ({ s with acc := onceL s s.acc n dg } : St) = s
      unfold onceL
      rw [hf]
      rfl
    rw [HBS.out.1, hf, e2]
    exact DocL.same H.out
  rw [← hb, ← hs']
  clear h hi hl hv hlies hm hb hs' hop hq hi0 hz0 hz1 hz2 c0 c1 c3 c4 c5
  go_enter Try.func35, Try.ntmps35
  go_wp2_with fail
  refine HF.out.mono ?_
  rintro e w1 ⟨rfl, rfl⟩
  go_wp2_with fail
  refine HO.out.mono ?_
  rintro e w2 ⟨rfl, rfl⟩
  clear HF HO
  cases op with
  | false =>
    have HR := Lib.hid (HNO.out (onceB_open HOP.out.symm))
    clear HNO
    go_wp2_with fail
    go_ret
    exact HR.out
  | true =>
    by_cases hd : dg < 0
    · have HR := Lib.hid (HNO.out (onceB_neg hd))
      clear HNO
      go_wp2_with fail
      go_ret
      exact HR.out
    · cases q with
      | some x =>
        simp only [Option.getD_some, Option.isSome_some]
        by_cases hx : x = dg
        · have hxx : (x != dg) = false := by simpa using hx
          have HR : Hid (DocL w2 base d b s' (.returned (.bool true)) w2) := by
            have e1 := onceB_some (s := s) (m := s.acc) (n := n) HOP.out.symm hd HQ.out.symm
            have e2 : s' = s := by
              rw [HBS.out.2]
              show ({ s with acc := onceL s s.acc n dg } : St) = s
              unfold onceL
              rw [e1, decide_eq_true hx, if_pos rfl, aput_same (by rw [← HQ.out, hx])]
            show DocL _ _ _ _ _ _ _
            rw [HBS.out.1, e1, decide_eq_true hx, e2]
            exact DocL.same H.out
          clear hx HNO
          go_wp2_with fail
          go_ret
          exact HR.out
        · have hxx : (x != dg) = true := by simpa using hx
          have HR := Lib.hid (HNO.out ((onceB_some (s := s) (m := s.acc) (n := n) HOP.out.symm hd HQ.out.symm).trans (decide_eq_false hx)))
          clear hx HNO
          go_wp2_with fail
          go_ret
          exact HR.out
      | none =>
        simp only [Option.getD_none, Option.isSome_none]
        have e1 := onceB_none (s := s) (m := s.acc) (n := n) HOP.out.symm hd HQ.out.symm
        have HES : Hid (b = true ∧ s' = { s with acc := s.acc ++ [(n, dg)] }) := by
          refine ⟨HBS.out.1.trans e1, ?_⟩
          rw [HBS.out.2]
          show ({ s with acc := onceL s s.acc n dg } : St) = _
          unfold onceL
          rw [e1, if_pos rfl, keys_aput_none dg HQ.out.symm]
        have HROW : Hid (w2.ownsRow base 74 2 (.slice a m cap) m (s.acc.flatMap isL)) := by
          have := H.out.T
          rw [HMV.out.2, ← HMV.out.1] at this
          exact this
        have HLO : Hid (base ≤ w2.heap.size) := Nat.le_trans H.out.lo (Nat.le_of_lt H.out.lt)
        have HM9 : Hid (m ≤ 10000) := by show _ ≤ _; rw [HMV.out.1]; exact HL.out
        clear HNO e1
        go_upto_region 6 with fail
        go_wp2_with (at_builtin; refine wpList_append_own_at _ rfl _ _ 47 rfl base 74 i0 _ 2 16 Try.underlying47 HI.out HZ.out HS.out HY.out rfl (by decide) _ _ _ rfl (HROW.out.alloc _) ⟨w2.heap.size, 0, none⟩ 1 1 (isL (n, dg)) rfl rfl (is_cells w2 (n, dg) 74) (is_one (n, dg)) (by have := HM9.out; unfold maxLen; omega) (by have := HM9.out; omega) (by have := HLO.out; simp; omega) ?_)
        intro x w3 hown hg _ hat
        obtain ⟨xa, xc, rfl, _⟩ := row_form hown
        have hput := H.out.putT (l := s.acc ++ [(n, dg)]) (.cells #[.int .i64 n, .int .i64 dg] 74) (by rw [List.length_append, List.flatMap_append, ← HMV.out.1]; simpa using hown) (by rw [HMV.out.2]; exact hg) (by rw [HMV.out.2]; exact hat)
        have HPUT : Hid (DocL w2 base d b s' (.returned (.bool true)) (w3.setCell ⟨d, 2, none⟩ (.slice xa (m + 1) xc))) := by
          refine ⟨by rw [HES.out.1], ⟨{ v with T := .slice xa (m + 1) xc }, ?_⟩, hput.2⟩
          rw [HES.out.2]
          exact hput.1
        have hfz3 : w3.frozen? ⟨d, 2, none⟩ = false := by
          have hw : Wrote v.T.ownBlock.toList w2 w3 := ((Wrote.refl _ w2).alloc _).trans (Wrote.of_grown (by rw [HMV.out.2]; exact hg))
          have h9 := hw.heap H.out.cell (fun hm' => H.out.ne H.out.T (by decide) d (by simpa using hm') rfl)
          simp [World.frozen?, h9]
        have hc3 : w3.cell? ⟨d, 2, none⟩ = some (.slice a m cap) := by
          have hw : Wrote v.T.ownBlock.toList w2 w3 := ((Wrote.refl _ w2).alloc _).trans (Wrote.of_grown (by rw [HMV.out.2]; exact hg))
          have h9 := hw.heap H.out.cell (fun hm' => H.out.ne H.out.T (by decide) d (by simpa using hm') rfl)
          rw [cell_of_row _ _ _ _ _ _ h9, ← HMV.out.2]
          rfl
        have ld3 : d < w3.heap.size := by
          have hw : Wrote v.T.ownBlock.toList w2 w3 := ((Wrote.refl _ w2).alloc _).trans (Wrote.of_grown (by rw [HMV.out.2]; exact hg))
          exact Nat.lt_of_lt_of_le H.out.lt hw.size
        clear hown hg hat hput
        go_wp2_with fail
        go_ret
        exact HPUT.out

set_option maxRecDepth 100000 in
set_option maxHeartbeats 1600000 in
theorem ddecide_any (base d : Nat) (v : Dv) (s : St) (n dg : Int) (w : World) (h : DocAt w base d v s) (hi : Inv s) (hl : s.dec.length ≤ 10000) :
    Calls Try.prog 36 #[.pointer (some ⟨d, 0, none⟩), .int .i64 n, .int .i64 dg] w (DocL w base d (onceB s s.dec n dg) (decideS s n dg)) := by
  obtain ⟨i0, hi0, hz0, hz1, hz2⟩ := info_parts is_info
  have HI := Lib.hid hi0
  have HZ := Lib.hid hz0
  have HS := Lib.hid hz1
  have HY := Lib.hid hz2
  obtain ⟨a, cap, hv, hlies⟩ := h.lD
  have HF := Lib.hid (find_any a cap s.dec n w hlies (by omega))
  have HO := Lib.hid (dopen_any base d v s n w h hi)
  obtain ⟨c0, c1, c2, c3, c4, c5⟩ := h.cells
  have ld := h.lt
  have hfz := h.fz 5
  have H := Lib.hid h
  have HL := Lib.hid hl
  obtain ⟨m, hm⟩ : ∃ m, m = s.dec.length := ⟨_, rfl⟩
  rw [← hm] at HF hv
  rw [hv] at c5
  obtain ⟨b, hb⟩ : ∃ b, b = onceB s s.dec n dg := ⟨_, rfl⟩
  obtain ⟨s', hs'⟩ : ∃ z, z = decideS s n dg := ⟨_, rfl⟩
  have HBS : Hid (b = onceB s s.dec n dg ∧ s' = decideS s n dg) := ⟨hb, hs'⟩
  obtain ⟨op, hop⟩ : ∃ b, b = openB s n := ⟨_, rfl⟩
  rw [← hop] at HO
  have HOP := Lib.hid hop
  obtain ⟨q, hq⟩ : ∃ z, z = aget s.dec n := ⟨_, rfl⟩
  rw [← hq] at HF
  have HQ := Lib.hid hq
  have HMV : Hid (m = s.dec.length ∧ v.D = .slice a m cap) := ⟨hm, hv⟩
  have HNO : Hid (onceB s s.dec n dg = false → DocL w base d b s' (.returned (.bool false)) w) := fun hf => by
    have e2 : s' = s := by
      rw [HBS.out.2]
      show ({ s with dec := onceL s s.dec n dg } : St) = s
      unfold onceL
      rw [hf]
      rfl
    rw [HBS.out.1, hf, e2]
    exact DocL.same H.out
  rw [← hb, ← hs']
  clear h hi hl hv hlies hm hb hs' hop hq hi0 hz0 hz1 hz2 c0 c1 c2 c3 c4
  go_enter Try.func36, Try.ntmps36
  go_wp2_with fail
  refine HF.out.mono ?_
  rintro e w1 ⟨rfl, rfl⟩
  go_wp2_with fail
  refine HO.out.mono ?_
  rintro e w2 ⟨rfl, rfl⟩
  clear HF HO
  cases op with
  | false =>
    have HR := Lib.hid (HNO.out (onceB_open HOP.out.symm))
    clear HNO
    go_wp2_with fail
    go_ret
    exact HR.out
  | true =>
    by_cases hd : dg < 0
    · have HR := Lib.hid (HNO.out (onceB_neg hd))
      clear HNO
      go_wp2_with fail
      go_ret
      exact HR.out
    · cases q with
      | some x =>
        simp only [Option.getD_some, Option.isSome_some]
        by_cases hx : x = dg
        · have hxx : (x != dg) = false := by simpa using hx
          have HR : Hid (DocL w2 base d b s' (.returned (.bool true)) w2) := by
            have e1 := onceB_some (s := s) (m := s.dec) (n := n) HOP.out.symm hd HQ.out.symm
            have e2 : s' = s := by
              rw [HBS.out.2]
              show ({ s with dec := onceL s s.dec n dg } : St) = s
              unfold onceL
              rw [e1, decide_eq_true hx, if_pos rfl, aput_same (by rw [← HQ.out, hx])]
            show DocL _ _ _ _ _ _ _
            rw [HBS.out.1, e1, decide_eq_true hx, e2]
            exact DocL.same H.out
          clear hx HNO
          go_wp2_with fail
          go_ret
          exact HR.out
        · have hxx : (x != dg) = true := by simpa using hx
          have HR := Lib.hid (HNO.out ((onceB_some (s := s) (m := s.dec) (n := n) HOP.out.symm hd HQ.out.symm).trans (decide_eq_false hx)))
          clear hx HNO
          go_wp2_with fail
          go_ret
          exact HR.out
      | none =>
        simp only [Option.getD_none, Option.isSome_none]
        have e1 := onceB_none (s := s) (m := s.dec) (n := n) HOP.out.symm hd HQ.out.symm
        have HES : Hid (b = true ∧ s' = { s with dec := s.dec ++ [(n, dg)] }) := by
          refine ⟨HBS.out.1.trans e1, ?_⟩
          rw [HBS.out.2]
          show ({ s with dec := onceL s s.dec n dg } : St) = _
          unfold onceL
          rw [e1, if_pos rfl, keys_aput_none dg HQ.out.symm]
        have HROW : Hid (w2.ownsRow base 74 2 (.slice a m cap) m (s.dec.flatMap isL)) := by
          have := H.out.D
          rw [HMV.out.2, ← HMV.out.1] at this
          exact this
        have HLO : Hid (base ≤ w2.heap.size) := Nat.le_trans H.out.lo (Nat.le_of_lt H.out.lt)
        have HM9 : Hid (m ≤ 10000) := by show _ ≤ _; rw [HMV.out.1]; exact HL.out
        clear HNO e1
        go_upto_region 6 with fail
        go_wp2_with (at_builtin; refine wpList_append_own_at _ rfl _ _ 47 rfl base 74 i0 _ 2 16 Try.underlying47 HI.out HZ.out HS.out HY.out rfl (by decide) _ _ _ rfl (HROW.out.alloc _) ⟨w2.heap.size, 0, none⟩ 1 1 (isL (n, dg)) rfl rfl (is_cells w2 (n, dg) 74) (is_one (n, dg)) (by have := HM9.out; unfold maxLen; omega) (by have := HM9.out; omega) (by have := HLO.out; simp; omega) ?_)
        intro x w3 hown hg _ hat
        obtain ⟨xa, xc, rfl, _⟩ := row_form hown
        have hput := H.out.putD (l := s.dec ++ [(n, dg)]) (.cells #[.int .i64 n, .int .i64 dg] 74) (by rw [List.length_append, List.flatMap_append, ← HMV.out.1]; simpa using hown) (by rw [HMV.out.2]; exact hg) (by rw [HMV.out.2]; exact hat)
        have HPUT : Hid (DocL w2 base d b s' (.returned (.bool true)) (w3.setCell ⟨d, 5, none⟩ (.slice xa (m + 1) xc))) := by
          refine ⟨by rw [HES.out.1], ⟨{ v with D := .slice xa (m + 1) xc }, ?_⟩, hput.2⟩
          rw [HES.out.2]
          exact hput.1
        have hfz3 : w3.frozen? ⟨d, 5, none⟩ = false := by
          have hw : Wrote v.D.ownBlock.toList w2 w3 := ((Wrote.refl _ w2).alloc _).trans (Wrote.of_grown (by rw [HMV.out.2]; exact hg))
          have h9 := hw.heap H.out.cell (fun hm' => H.out.ne H.out.D (by decide) d (by simpa using hm') rfl)
          simp [World.frozen?, h9]
        have hc3 : w3.cell? ⟨d, 5, none⟩ = some (.slice a m cap) := by
          have hw : Wrote v.D.ownBlock.toList w2 w3 := ((Wrote.refl _ w2).alloc _).trans (Wrote.of_grown (by rw [HMV.out.2]; exact hg))
          have h9 := hw.heap H.out.cell (fun hm' => H.out.ne H.out.D (by decide) d (by simpa using hm') rfl)
          rw [cell_of_row _ _ _ _ _ _ h9, ← HMV.out.2]
          rfl
        have ld3 : d < w3.heap.size := by
          have hw : Wrote v.D.ownBlock.toList w2 w3 := ((Wrote.refl _ w2).alloc _).trans (Wrote.of_grown (by rw [HMV.out.2]; exact hg))
          exact Nat.lt_of_lt_of_le H.out.lt hw.size
        clear hown hg hat hput
        go_wp2_with fail
        go_ret
        exact HPUT.out

set_option maxRecDepth 100000 in
set_option maxHeartbeats 1600000 in
theorem denter_any (base d : Nat) (v : Dv) (s : St) (x : Int) (w : World) (h : DocAt w base d v s) :
    Calls Try.prog 39 #[.pointer (some ⟨d, 0, none⟩), .int .i64 x] w (DocL w base d (enterB s x) (enter s x)) := by
  obtain ⟨c0, c1, c2, c3, c4, c5⟩ := h.cells
  have ld := h.lt
  have f1 := h.fz 1
  have f2 := h.fz 2
  have f3 := h.fz 3
  have H := Lib.hid h
  obtain ⟨view, hview⟩ : ∃ z, z = s.view := ⟨_, rfl⟩
  rw [← hview] at c1
  have HB : Hid (enterB s x = (decide (x ≤ 1073741824) && decide (view < x))) := by show _ = _; rw [hview]; rfl
  have HNO : Hid (enterB s x = false → DocL w base d (enterB s x) (enter s x) (.returned (.bool false)) w) := fun hf => by
    have e : enter s x = s := by unfold enter; rw [hf]; rfl
    rw [hf, e]
    exact DocL.same H.out
  obtain ⟨b, hb⟩ : ∃ b, b = enterB s x := ⟨_, rfl⟩
  obtain ⟨s', hs'⟩ : ∃ z, z = enter s x := ⟨_, rfl⟩
  have HBS : Hid (b = enterB s x ∧ s' = enter s x) := ⟨hb, hs'⟩
  rw [← hb, ← hs'] at HNO ⊢
  rw [← hb] at HB
  clear h hview hb hs'
  by_cases h1 : x ≤ view
  · have HR := Lib.hid (HNO.out (by rw [HB.out, decide_eq_false (by omega : ¬ view < x), Bool.and_false]))
    clear HB HNO
    go_enter Try.func39, Try.ntmps39
    go_wp2_with fail
    go_ret
    exact HR.out
  · by_cases h2 : 1073741824 < x
    · have HR := Lib.hid (HNO.out (by rw [HB.out, decide_eq_false (by omega : ¬ x ≤ 1073741824), Bool.false_and]))
      clear HB HNO
      go_enter Try.func39, Try.ntmps39
      go_wp2_with fail
      go_ret
      exact HR.out
    · have HT : Hid (enterB s x = true) := by show _ = _; rw [← HBS.out.1, HB.out, decide_eq_true (by omega : x ≤ 1073741824), decide_eq_true (by omega : view < x)]; rfl
      have HES : Hid (s' = { s with view := x, acc := [], votes := [] }) := by show _ = _; rw [HBS.out.2]; unfold enter; rw [HT.out]; rfl
      have e1 := heap_setCell_same _ d 1 _ _ (.int .i64 x) H.out.cell
      have e2 := heap_setCell_same _ d 2 _ _ (.slice none 0 0) e1
      have e3 := heap_setCell_same _ d 3 _ _ (.slice none 0 0) e2
      have HDL : Hid (DocL w base d b s' (.returned (.bool true)) (((w.setCell ⟨d, 1, none⟩ (.int .i64 x)).setCell ⟨d, 2, none⟩ (.slice none 0 0)).setCell ⟨d, 3, none⟩ (.slice none 0 0))) := by
        refine ⟨by rw [HBS.out.1, HT.out], ⟨⟨.slice none 0 0, .slice none 0 0, v.P, v.D⟩, ?_⟩, ?_⟩
        · rw [HES.out]
          refine ⟨H.out.lo, e3, World.ownsRow_nil _ _ _ _, World.ownsRow_nil _ _ _ _, ?_, ?_, fun g hg => by cases hg⟩
          · exact row_set (row_set (row_set H.out.P (H.out.ne H.out.P (by decide))) (H.out.ne H.out.P (by decide))) (H.out.ne H.out.P (by decide))
          · exact row_set (row_set (row_set H.out.D (H.out.ne H.out.D (by decide))) (H.out.ne H.out.D (by decide))) (H.out.ne H.out.D (by decide))
        · exact Bk.of_wrote ((((Wrote.refl [d] w).setCell (p := ⟨d, 1, none⟩) (.inl (by simp)) _).setCell (p := ⟨d, 2, none⟩) (.inl (by simp)) _).setCell (p := ⟨d, 3, none⟩) (.inl (by simp)) _) (Nat.le_trans H.out.lo (Nat.le_of_lt H.out.lt)) (fun k hk => by rw [List.mem_singleton.1 hk]; exact H.out.lo) (fun k hk cs => by rw [List.mem_singleton.1 hk]; exact H.out.noop cs)
      clear HB HNO HT HES HBS e1 e2 e3
      go_enter Try.func39, Try.ntmps39
      go_wp2_with fail
      go_ret
      exact HDL.out
end Go.Proofs.Ytelmgaaofighpaa
