/- A range in one piece: plain data. -/
import Derived.Test.YtemgcliihbjjiaaDoorRmoves
namespace Go.Proofs.YtemgcliihbjjiaaDoor
open Go.RowKit Go.My

def begB2 (f t : ByteArray) (x : Pc) : Bool := lessK f x.fr && (decide (t.size = 0) || lessK x.fr t)
theorem one_iff {l : List Pc} (h : Ok l) (f t : ByteArray) : oneB l f t = (rangedB f t && !(l.any (begB2 f t))) := by
  unfold oneB
  cases hr : rangedB f t with
  | false => rfl
  | true =>
    obtain ⟨P, o, os, S, p⟩ := parts_of h (ranged_lt hr)
    have hP : P.any (begB2 f t) = false := by
      rw [List.any_eq_false]
      intro x hx
      have h1 : lessK f x.fr = false := lessK_asymm (lessK_lt_le (p.hp x hx) p.ho)
      unfold begB2
      simp [h1]
    have ho : begB2 f t o = false := by unfold begB2; rw [p.ho]; rfl
    have hS : S.any (begB2 f t) = false := by
      rw [List.any_eq_false]
      intro x hx
      unfold begB2
      by_cases h0 : t.size = 0
      · rw [p.hE h0] at hx; simp at hx
      · have h1 := p.hS h0 x hx
        simp [h0, h1]
    have hos : os.any (begB2 f t) = !os.isEmpty := by
      cases hq : os with
      | nil => rfl
      | cons x r =>
        have hx : x ∈ os := by rw [hq]; simp
        have h1 := p.hos x hx
        have h2 : begB2 f t x = true := by
          unfold begB2
          rw [h1]
          by_cases h0 : t.size = 0
          · simp [h0]
          · simp [h0, p.ht h0 x (by simp [hx])]
        rw [List.any_cons, h2]
        rfl
    have e : l.any (begB2 f t) = !os.isEmpty := by
      rw [p.eq, List.any_append, List.any_append, List.any_cons, hP, ho, hS, hos]
      simp
    rw [e, p.e, p.i]
    cases os with
    | nil => simp
    | cons x r => simp
theorem one_in {l : List Pc} (h : Ok l) {f t : ByteArray} (h1 : oneB l f t = true) {k : ByteArray} (hk : inB f t k = true) : ow pc0 l k = ow pc0 l f := by
  have hr : rangedB f t = true := by unfold oneB at h1; simp only [Bool.and_eq_true] at h1; exact h1.1
  have he : en l t = pl l f + 1 := by unfold oneB at h1; simp only [Bool.and_eq_true, decide_eq_true_eq] at h1; exact h1.2
  obtain ⟨P, o, os, S, p⟩ := parts_of h (ranged_lt hr)
  have hos : os = [] := by
    rw [p.e, p.i] at he
    exact List.length_eq_zero_iff.1 (by omega)
  have hf : inB f t f = true := by
    unfold inB
    rw [lessK_irr]
    by_cases h0 : t.size = 0
    · simp [h0]
    · simp [h0, ranged_lt hr h0]
  rw [(p.ow_in 0 hk).2, (p.ow_in 0 hf).2, hos]
  rfl
theorem oneX_in {l : List Pc} {f t : ByteArray} (h1 : oneB l f t = true) : oneX l f t = ow pc0 l f := by unfold oneX; rw [if_pos h1]
theorem one_ranged {l : List Pc} {f t : ByteArray} (h : rangedB f t = false) : oneB l f t = false := by unfold oneB; rw [h]; rfl
theorem own_ownerB {w W : World} {r : Nat} {L : List Pc} (h : RtOwn w r L W) (k : ByteArray) : Calls Tryd.prog 12 #[.pointer (some ⟨r, 0, none⟩), .string k] W fun e w' => e = .returned (.agg #[.string (ow pc0 L k).fr, .int .i64 (ow pc0 L k).sh, .int .i64 (ow pc0 L k).ep]) ∧ Below W.heap.size W w' :=
  (own_owner h k).mono fun _ _ h => ⟨h.1, h.2.2⟩
theorem own_oneB {w W : World} {r : Nat} {L : List Pc} (h : RtOwn w r L W) (f t : ByteArray) : Calls Tryd.prog 15 #[.pointer (some ⟨r, 0, none⟩), .string f, .string t] W fun e w' => e = .returned (.tuple #[.agg #[.string (oneX L f t).fr, .int .i64 (oneX L f t).sh, .int .i64 (oneX L f t).ep], .bool (oneB L f t)]) ∧ Below W.heap.size W w' :=
  (own_one h f t).mono fun _ _ h => ⟨h.1, h.2.2⟩
/-- 'x > y' of strings, as the walk has it. -/
theorem gtF {a b : ByteArray} (h : lessK b a = false) : (!Op.bytesLess a.toList b.toList && !(a.toList == b.toList)) = false := (gtK a b).trans h
theorem gtT {a b : ByteArray} (h : lessK b a = true) : (!Op.bytesLess a.toList b.toList && !(a.toList == b.toList)) = true := (gtK a b).trans h
theorem leK (a b : ByteArray) : (Op.bytesLess a.toList b.toList || a.toList == b.toList) = !lessK b a := by
  have h := gtK a b
  rw [← h]
  cases Op.bytesLess a.toList b.toList <;> cases a.toList == b.toList <;> rfl
end Go.Proofs.YtemgcliihbjjiaaDoor
