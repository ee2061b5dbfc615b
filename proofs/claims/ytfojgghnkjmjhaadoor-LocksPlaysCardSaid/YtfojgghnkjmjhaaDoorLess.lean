/- Keys in order: a list of bytes below another one. No program is named here. -/
import Derived.WalkLawsBesides
import Derived.Lib.Bytealg
import Derived.Lib.Strings
namespace Go.My
open Go.RowKit

/-! ### order -/
theorem less_lt : ∀ (x y : List UInt8), Op.bytesLess x y = decide (x < y)
  | [], [] => by simp [Op.bytesLess]
  | _ :: _, [] => by simp [Op.bytesLess]
  | [], _ :: _ => by simp [Op.bytesLess]
  | a :: x, b :: y => by
    rw [Op.bytesLess, less_lt x y]
    simp only [List.cons_lt_cons_iff]
    by_cases h1 : a < b <;> by_cases h2 : a = b <;> by_cases h3 : x < y <;> simp [h1, h2, h3]
def lessK (a b : ByteArray) : Bool := Op.bytesLess a.toList b.toList
theorem lessK_lt {a b : ByteArray} : lessK a b = true ↔ a.toList < b.toList := by unfold lessK; rw [less_lt]; simp
theorem bytes_eq {a b : ByteArray} (h : a.toList = b.toList) : a = b := by
  rw [Lib.toList_data, Lib.toList_data] at h
  cases a with | mk a => cases b with | mk b =>
    cases a; cases b; simp at h; rw [h]
theorem lessK_irr (a : ByteArray) : lessK a a = false := by
  cases h : lessK a a with
  | false => rfl
  | true => exact absurd (lessK_lt.1 h) (List.lt_irrefl _)
theorem lessK_trans {a b c : ByteArray} (h : lessK a b = true) (h' : lessK b c = true) : lessK a c = true :=
  lessK_lt.2 (List.lt_trans (lessK_lt.1 h) (lessK_lt.1 h'))
theorem lessK_tri {a b : ByteArray} (h : lessK a b ≠ true) (h2 : a ≠ b) : lessK b a = true := by
  have h : ¬ (lessK a b = true) := h
  rw [lessK_lt] at h ⊢
  refine Classical.byContradiction fun hl => h2 (bytes_eq (List.le_antisymm (List.not_lt.1 hl) (List.not_lt.1 h)))
theorem lessK_asymm {a b : ByteArray} (h : lessK a b = true) : lessK b a = false := by
  cases h2 : lessK b a with
  | false => rfl
  | true =>
    have h3 := lessK_trans h h2
    rw [lessK_irr] at h3
    exact h3.symm
theorem key_ne {a b : ByteArray} (h : a ≠ b) : (a.toList == b.toList) = false := by
  cases hb : a.toList == b.toList with
  | false => rfl
  | true => exact absurd (bytes_eq (by simpa using hb)) h
theorem gtK (a b : ByteArray) : (!Op.bytesLess a.toList b.toList && !(a.toList == b.toList)) = lessK b a := by
  cases h : lessK b a with
  | true =>
    have h1 : Op.bytesLess a.toList b.toList = false := lessK_asymm h
    rw [h1, key_ne (fun e => by rw [e, lessK_irr] at h; cases h)]
    rfl
  | false =>
    cases h1 : lessK a b with
    | true =>
      have h2 : Op.bytesLess a.toList b.toList = true := h1
      rw [h2]
      rfl
    | false =>
      have h2 : Op.bytesLess a.toList b.toList = false := h1
      have e : a = b := by
        by_cases e : a = b
        · exact e
        · have := lessK_tri (by rw [h1]; simp) e
          rw [this] at h
          cases h
      subst e
      rw [h2]
      simp
theorem empty_ne {t : ByteArray} (h : t.size ≠ 0) : (t.toList == []) = false := by
  cases hb : t.toList == [] with
  | false => rfl
  | true =>
    exfalso
    have h5 : t.toList = [] := by simpa using hb
    rw [Lib.toList_data] at h5
    have : t.data.size = 0 := by rw [← Array.length_toList, h5]; rfl
    exact h this
theorem lessK_empty (k : ByteArray) : lessK k ByteArray.empty = false := by
  cases h : lessK k ByteArray.empty with
  | false => rfl
  | true =>
    have := lessK_lt.1 h
    rw [Lib.toList_data ByteArray.empty] at this
    exact absurd this (by simp)
theorem lessK_trans' {a b c : ByteArray} (h : lessK b a = false) (h' : lessK c b = false) : lessK c a = false := by
  cases h3 : lessK c a with
  | false => rfl
  | true =>
    exfalso
    by_cases e : a = b
    · subst e
      rw [h3] at h'
      cases h'
    · have h4 := lessK_tri (by rw [h]; simp) (fun e' => e e'.symm)
      have := lessK_trans h3 h4
      rw [this] at h'
      cases h'
theorem lessK_le_lt {a b c : ByteArray} (h : lessK b a = false) (h' : lessK b c = true) : lessK a c = true := by
  cases h3 : lessK a c with
  | true => rfl
  | false =>
    have := lessK_trans' h3 h
    rw [this] at h'
    cases h'
theorem lessK_lt_le {a b c : ByteArray} (h : lessK a b = true) (h' : lessK c b = false) : lessK a c = true := by
  cases h3 : lessK a c with
  | true => rfl
  | false =>
    have := lessK_trans' h' h3
    rw [this] at h
    cases h
theorem lessK_anti {a b : ByteArray} (h : lessK a b = false) (h' : lessK b a = false) : a = b := by
  by_cases e : a = b
  · exact e
  · have := lessK_tri (by rw [h]; simp) e
    rw [this] at h'
    cases h'
theorem lessK_ne {a b : ByteArray} (h : lessK a b = true) : a ≠ b := by
  rintro rfl
  rw [lessK_irr] at h
  cases h
theorem size_empty {b : ByteArray} (h : b.size = 0) : b = ByteArray.empty := by
  cases b with | mk d =>
    have h2 : d.size = 0 := h
    have h3 : d = #[] := Array.size_eq_zero_iff.1 h2
    subst h3
    rfl

/-! ### comparing -/
def cmpK (a b : ByteArray) : Int := Lib.compareBytes a.data.toList b.data.toList
theorem compare_lt : ∀ (x y : List UInt8), (Lib.compareBytes x y < 0 ↔ x < y) ∧ (Lib.compareBytes x y = 0 ↔ x = y) ∧ (Lib.compareBytes x y = -1 ∨ Lib.compareBytes x y = 0 ∨ Lib.compareBytes x y = 1)
  | [], [] => by simp [Lib.compareBytes]
  | _ :: _, [] => by simp [Lib.compareBytes]
  | [], _ :: _ => by simp [Lib.compareBytes]
  | a :: x, b :: y => by
    obtain ⟨h1, h2, h3⟩ := compare_lt x y
    unfold Lib.compareBytes
    by_cases q1 : a < b
    · have : ¬ a = b := fun e => by rw [e] at q1; exact absurd q1 (by simp)
      simp [q1, this, List.cons_lt_cons_iff]
    · by_cases q2 : b < a
      · have : ¬ a = b := fun e => by rw [e] at q2; exact absurd q2 (by simp)
        simp [q1, q2, this, List.cons_lt_cons_iff]
      · have e : a = b := by
          have h5 : ¬ a.toNat < b.toNat := fun h => q1 h
          have h6 : ¬ b.toNat < a.toNat := fun h => q2 h
          exact UInt8.toNat_inj.1 (by omega)
        subst e
        simp only [q1, if_false, List.cons_lt_cons_iff, List.cons.injEq, true_and, false_or]
        exact ⟨h1, h2, h3⟩
theorem cmp_neg {a b : ByteArray} : cmpK a b < 0 ↔ lessK a b = true := by
  unfold cmpK
  rw [(compare_lt _ _).1, lessK_lt, Lib.toList_data, Lib.toList_data]
theorem cmp_zero {a b : ByteArray} : cmpK a b = 0 ↔ a = b := by
  unfold cmpK
  rw [(compare_lt _ _).2.1]
  constructor
  · intro h
    exact bytes_eq (by rw [Lib.toList_data, Lib.toList_data]; exact h)
  · rintro rfl
    rfl
theorem cmp_three (a b : ByteArray) : cmpK a b = -1 ∨ cmpK a b = 0 ∨ cmpK a b = 1 := (compare_lt _ _).2.2
end Go.My
