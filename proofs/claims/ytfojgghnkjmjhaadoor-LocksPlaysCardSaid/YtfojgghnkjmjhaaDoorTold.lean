/- fault: rows of steps told alike. -/
import Derived.Test.YtfojgghnkjmjhaaDoorAs4
import Derived.Test.YtfojgghnkjmjhaaDoorGenw
import Derived.Deep.QuietTactic
import Derived.BigQuiet
import Derived.WalkLawsBesides
import Derived.WalkSpells
namespace Go.Proofs.YtfojgghnkjmjhaaDoor
open Go.RowKit Go.My
/-- A list lies at a place: its elements' cells, one behind the other. -/
def Lies {α : Type} (w : World) (a : Option Addr) (c : Nat) (f : α → List Value) (l : List α) : Prop := ∀ (i : Nat) x, l[i]? = some x → ∃ g o, a = some ⟨g, o, none⟩ ∧ g < w.heap.size ∧ ∀ (j : Nat) v, (f x)[j]? = some v → w.cell? ⟨g, o + i * c + j, none⟩ = some v
theorem Lies.below {α : Type} {w w' : World} {a : Option Addr} {c : Nat} {f : α → List Value} {l : List α} (h : Lies w a c f l) (hb : Below w.heap.size w w') : Lies w' a c f l := fun i x hi => by
  obtain ⟨g, o, h1, h2, h3⟩ := h i x hi
  exact ⟨g, o, h1, Nat.lt_of_lt_of_le h2 hb.size, fun j v hj => (hb.cell (p := ⟨g, _, none⟩) h2).trans (h3 j v hj)⟩
theorem Lies.at {α : Type} {w : World} {a : Option Addr} {c : Nat} {f : α → List Value} {l : List α} (h : Lies w a c f l) {i : Nat} {x : α} (hi : l[i]? = some x) : ∃ g o, a = some ⟨g, o, none⟩ ∧ g < w.heap.size ∧ ∀ (j : Nat) v, (f x)[j]? = some v → w.cell? ⟨g, o + i * c + j, none⟩ = some v := h i x hi
/-- a row of a call's own lies -/
theorem row_lies {α : Type} {w : World} {base : Nat} {e : TypeId} {c : Nat} {a : Option Addr} {n cap : Nat} {f : α → List Value} {L : List α} (h : w.ownsRow base e c (.slice a n cap) n (L.flatMap f)) (hc : ∀ x, (f x).length = c) (hn : n = L.length) : Lies w a c f L := by
  intro i x hi
  have hlt := (List.getElem?_eq_some_iff.1 hi).1
  obtain ⟨g, rfl, h1, h2⟩ := row_pos h (by omega)
  refine ⟨g, 0, rfl, h2, fun j v hj => ?_⟩
  have hj3 : j < c := by rw [← hc x]; exact (List.getElem?_eq_some_iff.1 hj).1
  rw [Nat.zero_add, row_cell h hc hn hi hj3]
  exact hj
def BoolLeft (w : World) (b : Bool) (e : Ending) (w' : World) : Prop := e = .returned (.bool b) ∧ Below w.heap.size w w'
set_option maxRecDepth 100000 in
set_option maxHeartbeats 1600000 in
theorem same_st (a b : Option Addr) (n c d : Nat) (R : List StepT) (w : World) (ha : Lies w a 2 stepL R) (hb : Lies w b 2 stepL R) (hn : n = R.length) (hl : (n : Int) ≤ 70368744177664) :
    Calls Tryd.prog 10 #[.slice a n c, .slice b n d] w (BoolLeft w true) := by
  have HA := Lib.hid ha
  have HB := Lib.hid hb
  have HN := Lib.hid hn
  have P0 : Hid (Below w.heap.size w w) := Below.refl _ _
  clear ha hb hn
  go_enter Tryd.func10, Tryd.ntmps10
  go_wp2_with fail
  go_loopw [5] (fun i wr => ∃ j : Nat, j ≤ n ∧ i = .int .i64 j ∧ Hid (Below w.heap.size w wr)) (fun i _ => n - (intOf i).toNat)
  case atStart => exact ⟨0, by omega, rfl, P0⟩
  case round =>
    clear P0
    obtain ⟨j, hj, rfl, HW⟩ := hrel
    by_cases hlt : j < n
    · obtain ⟨x, hx⟩ : ∃ x, R[j]? = some x := ⟨_, List.getElem?_eq_getElem (by rw [← HN.out]; exact hlt)⟩
      obtain ⟨g, o, rfl, hg, hc⟩ := HA.out.below HW.out j x hx
      obtain ⟨g2, o2, rfl, hg2, hc2⟩ := HB.out.below HW.out j x hx
      have d0 : wr.cell? ⟨g, o + j * 2, none⟩ = some (.string x.1) := hc 0 _ rfl
      have d1 : wr.cell? ⟨g, o + j * 2 + 1, none⟩ = some (.int .i64 x.2) := hc 1 _ rfl
      have e0 : wr.cell? ⟨g2, o2 + j * 2, none⟩ = some (.string x.1) := hc2 0 _ rfl
      have e1 : wr.cell? ⟨g2, o2 + j * 2 + 1, none⟩ = some (.int .i64 x.2) := hc2 1 _ rfl
      have hj0 : (0 : Int) ≤ (j : Int) := by omega
      have hj1 : (j : Int) < (n : Int) := by omega
      have HD : Hid (∀ q, Below w.heap.size w (wr.drewN q)) := fun q => ⟨HW.out.os, HW.out.tape, HW.out.output, HW.out.size, HW.out.block⟩
      clear hc hc2 hx
      go_wp2_with fail
      go_quiet (fail)
      go_wp2_with fail
      exact ⟨⟨j + 1, by omega, by simp, HD.out _⟩, by simp [intOf]; omega⟩
    · obtain rfl : j = n := by omega
      go_wp2_with fail
      go_ret
      exact ⟨rfl, HW.out⟩
/-- a step in a block of its own -/
theorem step_lies {w : World} {H : Nat} {s : StepT} (h : w.heap[H]? = some (.cells #[.string s.1, .int .i64 s.2] 39 (0, 0))) : Lies w (some ⟨H, 0, none⟩) 2 stepL [s] := fun i x hi => by
  match i, hi with
  | 0, hi =>
    obtain rfl : s = x := by simpa using hi
    refine ⟨H, 0, rfl, lt_of_heap h, fun j v hj => ?_⟩
    rw [cell_of_row _ _ _ _ _ _ h]
    simp only [Nat.zero_mul, Nat.zero_add]
    simpa [stepL] using hj
  | i + 1, hi => simp at hi
end Go.Proofs.YtfojgghnkjmjhaaDoor
