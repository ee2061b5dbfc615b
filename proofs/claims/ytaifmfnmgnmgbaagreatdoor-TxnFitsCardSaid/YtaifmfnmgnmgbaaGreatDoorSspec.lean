/- A store, as plain data: entries by rising keys. -/
import Derived.Test.YtaifmfnmgnmgbaaGreatDoorChecked
import Derived.Test.YtaifmfnmgnmgbaaGreatDoorGenw
import Derived.Test.YtaifmfnmgnmgbaaGreatDoorGenl
import Derived.Test.YtaifmfnmgnmgbaaGreatDoorOpen
import Derived.WalkSpells
import Derived.WalkLawsBesides
import Derived.Deep.QuietTactic
import Derived.BigQuiet
import Derived.StillTailTactics
import Derived.Lib.Hide
import Derived.Lib.Bytealg
import Derived.Lib.Strings
namespace Go.Proofs.YtaifmfnmgnmgbaaGreatDoor
open Go.RowKit Go.My

structure Ent where
  key : ByteArray
  value : ByteArray
  ver : Int
def entL (e : Ent) : List Value := [.string e.key, .string e.value, .int .i64 e.ver]
def entA (e : Ent) : Value := .agg #[.string e.key, .string e.value, .int .i64 e.ver]
theorem entL_len (e : Ent) : (entL e).length = 3 := rfl
def ent0 : Ent := ⟨ByteArray.empty, ByteArray.empty, 0⟩
/-- A list lies at a place: its elements' cells, one behind the other. -/
def Lies {α : Type} (w : World) (a : Option Addr) (c : Nat) (f : α → List Value) (l : List α) : Prop := ∀ (i : Nat) x, l[i]? = some x → ∃ g o, a = some ⟨g, o, none⟩ ∧ g < w.heap.size ∧ ∀ (j : Nat) v, (f x)[j]? = some v → w.cell? ⟨g, o + i * c + j, none⟩ = some v
theorem Lies.below {α : Type} {w w' : World} {a : Option Addr} {c : Nat} {f : α → List Value} {l : List α} (h : Lies w a c f l) (hb : Below w.heap.size w w') : Lies w' a c f l := fun i x hi => by
  obtain ⟨g, o, h1, h2, h3⟩ := h i x hi
  exact ⟨g, o, h1, Nat.lt_of_lt_of_le h2 hb.size, fun j v hj => (hb.cell (p := ⟨g, _, none⟩) h2).trans (h3 j v hj)⟩
/-- A slice of entries that came from somewhere. -/
structure SrcAt (w : World) (a : Option Addr) (cap : Nat) (L : List Ent) : Prop where
  lies : Lies w a 3 entL L
  nil : a = none → cap = 0
  some : ∀ b, a = some b → b.spot = none
  room : L.length ≤ cap
  max : cap ≤ maxLen
theorem SrcAt.below {w w' : World} {a : Option Addr} {cap : Nat} {L : List Ent} (h : SrcAt w a cap L) (hb : Below w.heap.size w w') : SrcAt w' a cap L := ⟨h.lies.below hb, h.nil, h.some, h.room, h.max⟩
/-- The same, wherever what is empty may lie. -/
structure SrcAny (w : World) (a : Option Addr) (cap : Nat) (L : List Ent) : Prop where
  lies : Lies w a 3 entL L
  nil : a = none → cap = 0
  room : L.length ≤ cap
  max : cap ≤ maxLen
theorem SrcAny.below {w w' : World} {a : Option Addr} {cap : Nat} {L : List Ent} (h : SrcAny w a cap L) (hb : Below w.heap.size w w') : SrcAny w' a cap L := ⟨h.lies.below hb, h.nil, h.room, h.max⟩
theorem SrcAt.any {w : World} {a : Option Addr} {cap : Nat} {L : List Ent} (h : SrcAt w a cap L) : SrcAny w a cap L := ⟨h.lies, h.nil, h.room, h.max⟩
def BoolLeft (w : World) (b : Bool) (e : Ending) (w' : World) : Prop := e = .returned (.bool b) ∧ Below w.heap.size w w'

/-! ### order -/
theorem less_lt : ∀ (x y : List UInt8), Op.bytesLess x y = decide (x < y)
  | [], [] => by simp [Op.bytesLess]
  | _ :: _, [] => by simp [Op.bytesLess]
  | [], _ :: _ => by simp [Op.bytesLess]
  | a :: x, b :: y => by
    rw [Op.bytesLess, less_lt x y]
    simp only [List.cons_lt_cons_iff]
    by_cases h1 : a < b <;> by_cases h2 : a = b <;> by_cases h3 : x < y <;> simp [h1, h2, h3]
def lessK (a b : ByteArray) : Bool := Op.bytesLess a.toList b.toList
theorem lessK_lt {a b : ByteArray} : lessK a b = true ↔ a.toList < b.toList := by unfold lessK; rw [less_lt]; simp
theorem bytes_eq {a b : ByteArray} (h : a.toList = b.toList) : a = b := by
  rw [Lib.toList_data, Lib.toList_data] at h
  cases a with | mk a => cases b with | mk b =>
    cases a; cases b; simp at h; rw [h]
theorem lessK_irr (a : ByteArray) : lessK a a = false := by
  cases h : lessK a a with
  | false => rfl
  | true => exact absurd (lessK_lt.1 h) (List.lt_irrefl _)
theorem lessK_trans {a b c : ByteArray} (h : lessK a b = true) (h' : lessK b c = true) : lessK a c = true :=
  lessK_lt.2 (List.lt_trans (lessK_lt.1 h) (lessK_lt.1 h'))
theorem lessK_tri {a b : ByteArray} (h : lessK a b ≠ true) (h2 : a ≠ b) : lessK b a = true := by
  have h : ¬ (lessK a b = true) := h
  rw [lessK_lt] at h ⊢
  refine Classical.byContradiction fun hl => h2 (bytes_eq (List.le_antisymm (List.not_lt.1 hl) (List.not_lt.1 h)))
theorem lessK_asymm {a b : ByteArray} (h : lessK a b = true) : lessK b a = false := by
  cases h2 : lessK b a with
  | false => rfl
  | true =>
    have h3 := lessK_trans h h2
    rw [lessK_irr] at h3
    exact h3.symm
theorem key_ne {a b : ByteArray} (h : a ≠ b) : (a.toList == b.toList) = false := by
  cases hb : a.toList == b.toList with
  | false => rfl
  | true => exact absurd (bytes_eq (by simpa using hb)) h
def Up (L : List Ent) : Prop := L.Pairwise fun a b => lessK a.key b.key = true

/-! ### comparing -/
def cmpK (a b : ByteArray) : Int := Lib.compareBytes a.data.toList b.data.toList
theorem compare_lt : ∀ (x y : List UInt8), (Lib.compareBytes x y < 0 ↔ x < y) ∧ (Lib.compareBytes x y = 0 ↔ x = y) ∧ (Lib.compareBytes x y = -1 ∨ Lib.compareBytes x y = 0 ∨ Lib.compareBytes x y = 1)
  | [], [] => by simp [Lib.compareBytes]
  | _ :: _, [] => by simp [Lib.compareBytes]
  | [], _ :: _ => by simp [Lib.compareBytes]
  | a :: x, b :: y => by
    obtain ⟨h1, h2, h3⟩ := compare_lt x y
    unfold Lib.compareBytes
    by_cases q1 : a < b
    · have : ¬ a = b := fun e => by rw [e] at q1; exact absurd q1 (by simp)
      simp [q1, this, List.cons_lt_cons_iff]
    · by_cases q2 : b < a
      · have : ¬ a = b := fun e => by rw [e] at q2; exact absurd q2 (by simp)
        simp [q1, q2, this, List.cons_lt_cons_iff]
      · have e : a = b := by
          have h5 : ¬ a.toNat < b.toNat := fun h => q1 h
          have h6 : ¬ b.toNat < a.toNat := fun h => q2 h
          exact UInt8.toNat_inj.1 (by omega)
        subst e
        simp only [q1, if_false, List.cons_lt_cons_iff, List.cons.injEq, true_and, false_or]
        exact ⟨h1, h2, h3⟩
theorem cmp_neg {a b : ByteArray} : cmpK a b < 0 ↔ lessK a b = true := by
  unfold cmpK
  rw [(compare_lt _ _).1, lessK_lt, Lib.toList_data, Lib.toList_data]
theorem cmp_zero {a b : ByteArray} : cmpK a b = 0 ↔ a = b := by
  unfold cmpK
  rw [(compare_lt _ _).2.1]
  constructor
  · intro h
    exact bytes_eq (by rw [Lib.toList_data, Lib.toList_data]; exact h)
  · rintro rfl
    rfl
theorem cmp_three (a b : ByteArray) : cmpK a b = -1 ∨ cmpK a b = 0 ∨ cmpK a b = 1 := (compare_lt _ _).2.2
end Go.Proofs.YtaifmfnmgnmgbaaGreatDoor
