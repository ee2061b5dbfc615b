/- Which pieces a route may be made of, as plain data. -/
import Derived.Test.YtemgcliihbjjiaaDoorRspec
namespace Go.Proofs.YtemgcliihbjjiaaDoor
open Go.RowKit Go.My

def begB (l : List Pc) : Nat → Bool
  | 0 => decide ((l.getD 0 pc0).fr.size = 0)
  | i + 1 => lessK (l.getD i pc0).fr (l.getD (i + 1) pc0).fr
theorem begB_zero (l : List Pc) : begB l 0 = decide ((l.getD 0 pc0).fr.size = 0) := rfl
theorem begB_succ (l : List Pc) (i : Nat) : begB l (i + 1) = lessK (l.getD i pc0).fr (l.getD (i + 1) pc0).fr := rfl
def okAt (l : List Pc) (i : Nat) : Bool := fitB (l.getD i pc0) && begB l i
def firstBad (l : List Pc) : Option Nat := (List.range l.length).find? fun i => !okAt l i
def ofErr (l : List Pc) : Option (Int × Int) := if l.length = 0 then some (1, 0) else if 32 < l.length then some (71, l.length) else (firstBad l).map fun i => (1, (i : Int))
theorem firstBad_some {l : List Pc} {j : Nat} (hj : j < l.length) (hb : okAt l j = false) (h : ∀ i, i < j → okAt l i = true) : firstBad l = some j := by
  unfold firstBad
  rw [List.find?_range_eq_some]
  refine ⟨by rw [hb]; rfl, by simpa using hj, fun i hi => by rw [h i hi]; rfl⟩
theorem firstBad_none {l : List Pc} (h : ∀ i, i < l.length → okAt l i = true) : firstBad l = none := by
  unfold firstBad
  rw [List.find?_range_eq_none]
  intro i hi
  rw [h i (by simpa using hi)]
  rfl
theorem up_of_adj : ∀ {l : List Pc}, (∀ i x y, l[i]? = some x → l[i + 1]? = some y → lessK x.fr y.fr = true) → Up l
  | [], _ => List.Pairwise.nil
  | [_], _ => List.pairwise_singleton _ _
  | a :: b :: t, h => by
    have ih : Up (b :: t) := up_of_adj (fun i x y h1 h2 => h (i + 1) x y (by simpa using h1) (by simpa using h2))
    have hab := h 0 a b rfl rfl
    refine List.pairwise_cons.2 ⟨fun x hx => ?_, ih⟩
    rcases List.mem_cons.1 hx with rfl | hx
    · exact hab
    · exact lessK_trans hab ((List.pairwise_cons.1 ih).1 x hx)
theorem getD_of {l : List Pc} {i : Nat} {x : Pc} (h : l[i]? = some x) : l.getD i pc0 = x := by rw [List.getD_eq_getElem?_getD, h]; rfl
theorem ok_of_err {l : List Pc} (h0 : l.length ≠ 0) (h32 : l.length ≤ 32) (h : ∀ i, i < l.length → okAt l i = true) : Ok l := by
  have hh : ∀ i x, l[i]? = some x → fitB x = true ∧ begB l i = true := fun i x hx => by
    have := h i (List.getElem?_eq_some_iff.1 hx).1
    unfold okAt at this
    rw [getD_of hx, Bool.and_eq_true] at this
    exact this
  refine ⟨fun e => by rw [e] at h0; exact h0 rfl, fun o ho => ?_, up_of_adj fun i x y hx hy => ?_, fun x hx => ?_, h32⟩
  · have := (hh 0 o ho).2
    unfold begB at this
    rw [getD_of ho] at this
    exact size_empty (by simpa using this)
  · have := (hh (i + 1) y hy).2
    rw [begB_succ, getD_of hx, getD_of hy] at this
    exact this
  · obtain ⟨i, hi⟩ := List.mem_iff_getElem?.1 hx
    exact (hh i x hi).1
theorem Ok.at {l : List Pc} (h : Ok l) : ∀ i, i < l.length → okAt l i = true := fun i hi => by
  have hx := List.getElem?_eq_getElem hi
  unfold okAt
  rw [getD_of hx, h.fit _ (List.mem_of_getElem? hx), Bool.true_and]
  cases i with
  | zero =>
    unfold begB
    rw [getD_of hx, h.fst _ hx]
    rfl
  | succ i =>
    have hy := List.getElem?_eq_getElem (show i < l.length by omega)
    rw [begB_succ, getD_of hx, getD_of hy]
    exact List.pairwise_iff_getElem.1 h.up i (i + 1) (by omega) hi (by omega)
theorem ofErr_ok {l : List Pc} (h : Ok l) : ofErr l = none := by
  unfold ofErr
  rw [if_neg (fun e => h.ne (List.length_eq_zero_iff.1 e)), if_neg (by have := h.len; omega), firstBad_none h.at]
  rfl
end Go.Proofs.YtemgcliihbjjiaaDoor
