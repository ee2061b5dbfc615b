/- General: a list lies at a place. Nothing here names a program. -/
import Derived.Test.YtelmgaaofighpaaOpen
namespace Go.My
open Go.RowKit

/-- A list lies at a place: its elements' cells, one behind the other. -/
def LiesAt {α : Type} (w : World) (a : Option Addr) (c : Nat) (f : α → List Value) (l : List α) : Prop := ∀ (i : Nat) x, l[i]? = some x → ∃ g o, a = some ⟨g, o, none⟩ ∧ g < w.heap.size ∧ ∀ (j : Nat) v, (f x)[j]? = some v → w.cell? ⟨g, o + i * c + j, none⟩ = some v
section
variable {α : Type} {w w' : World} {a : Option Addr} {c : Nat} {f : α → List Value} {l : List α}
theorem LiesAt.nil (w : World) (a : Option Addr) (c : Nat) (f : α → List Value) : LiesAt w a c f [] := fun i x h => by simp at h
theorem LiesAt.below (h : LiesAt w a c f l) (hb : Below w.heap.size w w') : LiesAt w' a c f l := fun i x hi => by
  obtain ⟨g, o, h1, h2, h3⟩ := h i x hi
  exact ⟨g, o, h1, Nat.lt_of_lt_of_le h2 hb.size, fun j v hj => (hb.cell (p := ⟨g, _, none⟩) h2).trans (h3 j v hj)⟩
theorem LiesAt.drewN (h : LiesAt w a c f l) (n : Nat) : LiesAt (w.drewN n) a c f l := h
theorem LiesAt.wrote {S : List Nat} (h : LiesAt w a c f l) (hw : Wrote S w w') (hS : ∀ g o, a = some ⟨g, o, none⟩ → l ≠ [] → g ∉ S) : LiesAt w' a c f l := fun i x hi => by
  obtain ⟨g, o, h1, h2, h3⟩ := h i x hi
  refine ⟨g, o, h1, Nat.lt_of_lt_of_le h2 hw.size, fun j v hj => (hw.cell (p := ⟨g, _, none⟩) h2 (hS g o h1 ?_)).trans (h3 j v hj)⟩
  rintro rfl
  simp at hi
theorem LiesAt.at (h : LiesAt w a c f l) {i : Nat} {x : α} (hi : l[i]? = some x) : ∃ g o, a = some ⟨g, o, none⟩ ∧ g < w.heap.size ∧ ∀ (j : Nat) v, (f x)[j]? = some v → w.cell? ⟨g, o + i * c + j, none⟩ = some v := h i x hi
/-- of elements of one cell -/
theorem LiesAt.at1 {e : α → Value} (h : LiesAt w a 1 (fun x => [e x]) l) {i : Nat} {x : α} (hi : l[i]? = some x) : ∃ g o, a = some ⟨g, o, none⟩ ∧ g < w.heap.size ∧ w.cell? ⟨g, o + i, none⟩ = some (e x) := by
  obtain ⟨g, o, h1, h2, h3⟩ := h i x hi
  have := h3 0 _ rfl
  rw [Nat.mul_one, Nat.add_zero] at this
  exact ⟨g, o, h1, h2, this⟩
/-- a row of a call's own -/
theorem row_liesAt {base : Nat} {e : TypeId} {n cap : Nat} (h : w.ownsRow base e c (.slice a n cap) n (l.flatMap f)) (hc : ∀ x, (f x).length = c) (hn : n = l.length) : LiesAt w a c f l := by
  intro i x hi
  have hil : i < l.length := (List.getElem?_eq_some_iff.1 hi).1
  obtain ⟨g, rfl, _, hg⟩ := row_pos h (by omega)
  refine ⟨g, 0, rfl, hg, fun j v hj => ?_⟩
  rw [Nat.zero_add]
  have hjc : j < c := by rw [← hc x]; exact (List.getElem?_eq_some_iff.1 hj).1
  rw [row_cell h hc hn hi hjc]
  exact hj
theorem flat_one {β : Type} (e : α → β) (l : List α) : l.flatMap (fun x => [e x]) = l.map e := by
  induction l with
  | nil => rfl
  | cons x l ih => rw [List.flatMap_cons, List.map_cons, ih]; rfl
theorem row_lies1 {base : Nat} {t : TypeId} {n cap : Nat} {e : α → Value} (h : w.ownsRow base t 1 (.slice a n cap) n (l.map e)) (hn : n = l.length) : LiesAt w a 1 (fun x => [e x]) l := by
  refine row_liesAt (base := base) (e := t) (cap := cap) ?_ (fun _ => rfl) hn
  rw [flat_one]
  exact h
/-- a slice's value, opened -/
theorem row_slice {base : Nat} {t : TypeId} {v : Value} {n : Nat} {xs : List Value} (h : w.ownsRow base t c v n xs) : ∃ a cap, v = .slice a n cap := by
  obtain ⟨a, cap, h1, _⟩ := row_form h
  exact ⟨a, cap, h1⟩
theorem lies_of_list {R : World → List Value → α → Prop} (h : ListAt w a c R l) (hR : ∀ cs x, R w cs x → cs = f x) : LiesAt w a c f l := by
  intro i x hi
  obtain ⟨b, off, cs, h1, h2, h3, h4, h5⟩ := h i x hi
  refine ⟨b, off, h1, h2, fun j v hj => ?_⟩
  rw [← hR cs x h5] at hj
  exact h4 j v hj
end
end Go.My
