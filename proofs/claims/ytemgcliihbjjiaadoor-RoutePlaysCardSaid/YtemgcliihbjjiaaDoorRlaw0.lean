/- What a move answers, and what a law asks of owners: plain data. -/
import Derived.Test.YtemgcliihbjjiaaDoorRdoc
import Derived.Test.YtemgcliihbjjiaaDoorRofp
namespace Go.Proofs.YtemgcliihbjjiaaDoor
open Go.RowKit Go.My

def moveErr (l : List Pc) (f t : ByteArray) (s : Int) : Option (Int × Int) :=
  if rangedB f t = false then some (91, 0)
  else if s < 0 ∨ 4 ≤ s then some (1, s)
  else if fullB (ownL l f t) = true then some (1, -1)
  else if 32 < (movL l f t s).length then some (71, ((movL l f t s).length : Int))
  else none
def moveL (l : List Pc) (f t : ByteArray) (s : Int) : List Pc := if (moveErr l f t s).isNone then movL l f t s else l
theorem moveL_none {l : List Pc} {f t : ByteArray} {s : Int} (h : moveErr l f t s = none) : moveL l f t s = movL l f t s := by unfold moveL; rw [h]; rfl
theorem moveL_some {l : List Pc} {f t : ByteArray} {s : Int} {q : Int × Int} (h : moveErr l f t s = some q) : moveL l f t s = l := by unfold moveL; rw [h]; rfl
theorem ranged_lt {f t : ByteArray} (h : rangedB f t = true) : t.size ≠ 0 → lessK f t = true := by
  unfold rangedB at h
  simp only [Bool.and_eq_true, Bool.or_eq_true, decide_eq_true_eq] at h
  exact fun h0 => h.2.resolve_left h0
structure Moves (l : List Pc) (f t : ByteArray) (s : Int) : Prop where
  rg : rangedB f t = true
  s0 : 0 ≤ s
  s4 : s < 4
  full : fullB (ownL l f t) = false
  len : (movL l f t s).length ≤ 32
theorem moves_of {l : List Pc} {f t : ByteArray} {s : Int} (h : moveErr l f t s = none) : Moves l f t s := by
  unfold moveErr at h
  split at h
  · cases h
  · split at h
    · cases h
    · split at h
      · cases h
      · split at h
        · cases h
        · exact ⟨by simp_all, by omega, by omega, by simp_all, by omega⟩
theorem ok_move {l : List Pc} (h : Ok l) (f t : ByteArray) (s : Int) : Ok (moveL l f t s) := by
  cases he : moveErr l f t s with
  | some q => rw [moveL_some he]; exact h
  | none =>
    rw [moveL_none he]
    have m := moves_of he
    obtain ⟨P, o, os, S, p⟩ := parts_of h (ranged_lt m.rg)
    exact p.ok_mov h m.rg s m.s0 m.s4 (by rw [← p.own]; exact m.full) m.len
theorem moved_in {l : List Pc} (h : Ok l) {f t : ByteArray} {s : Int} (he : moveErr l f t s = none) {k : ByteArray} (hk : inB f t k = true) :
    (ow pc0 (moveL l f t s) k).sh = s ∧ (ow pc0 (moveL l f t s) k).ep = (ow pc0 l k).ep + 1 := by
  rw [moveL_none he]
  have m := moves_of he
  obtain ⟨P, o, os, S, p⟩ := parts_of h (ranged_lt m.rg)
  exact p.bump_in s hk
theorem moved_out {l : List Pc} (h : Ok l) {f t : ByteArray} {s : Int} {k : ByteArray} (hk : ¬ (moveErr l f t s = none ∧ inB f t k = true)) :
    (ow pc0 (moveL l f t s) k).sh = (ow pc0 l k).sh ∧ (ow pc0 (moveL l f t s) k).ep = (ow pc0 l k).ep := by
  cases he : moveErr l f t s with
  | some q => rw [moveL_some he]; exact ⟨rfl, rfl⟩
  | none =>
    rw [moveL_none he]
    have m := moves_of he
    obtain ⟨P, o, os, S, p⟩ := parts_of h (ranged_lt m.rg)
    exact p.keep_out (ranged_lt m.rg) s (by
      cases hb : inB f t k with
      | false => rfl
      | true => exact absurd ⟨he, hb⟩ hk)
theorem ow_ok_mem {l : List Pc} (h : Ok l) (k : ByteArray) : ow pc0 l k ∈ l := List.mem_of_getElem? (pl_get h k)
theorem ow_below (l : List Pc) (k : ByteArray) : lessK k (ow pc0 l k).fr = false := ow_le (lessK_empty k)
theorem ow_latest {l : List Pc} (h : Ok l) (k : ByteArray) : ∀ x, x ∈ l → lessK k x.fr = false → lessK (ow pc0 l k).fr x.fr = false := by
  intro x hx hk
  cases l with
  | nil => exact absurd rfl h.ne
  | cons a r =>
    have ha := h.fst a rfl
    have e : ow pc0 (a :: r) k = ow a r k := by
      rw [ow_cons, ha]
      rw [lessK_empty]
      rfl
    rw [e]
    obtain ⟨h1, h2⟩ := List.pairwise_cons.1 h.up
    rcases List.mem_cons.1 hx with rfl | hx
    · rw [ha]
      exact lessK_empty _
    · exact ow_last h1 h2 x hx hk
end Go.Proofs.YtemgcliihbjjiaaDoor
