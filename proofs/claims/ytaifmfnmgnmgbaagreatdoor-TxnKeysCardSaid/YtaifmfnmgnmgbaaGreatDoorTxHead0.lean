/- Txn: the question whose answer is fixed. -/
import Derived.Test.YtaifmfnmgnmgbaaGreatDoorTxApply
import Derived.Test.YtaifmfnmgnmgbaaGreatDoorTxPut
import Derived.Test.YtaifmfnmgnmgbaaGreatDoorTxGetT
import Derived.Test.YtaifmfnmgnmgbaaGreatDoorAses
namespace Go.Proofs.YtaifmfnmgnmgbaaGreatDoor.Txn
open Go.RowKit Go.My

def kA : ByteArray := ⟨#[97]⟩
def kB : ByteArray := ⟨#[98]⟩
def vX : ByteArray := ⟨#[120]⟩
def T0 : Tx := ⟨1, 1, [⟨kB, 0⟩], [⟨kA, vX⟩]⟩
def L1 : List Ent := [⟨kA, vX, 1⟩]
theorem get_one (k v : ByteArray) (n : Int) : getE [⟨k, v, n⟩] k = some ⟨k, v, n⟩ := by simp [getE]
theorem join_first : joinE [] [newE [] kA vX] = L1 := by simp [joinE, newE, oldV, getE, L1, ent0]
theorem bad_first : badArg [] kA vX = false := by simp [badArg, oldV, getE, ent0, fitE, kA, vX]; decide
theorem full_first : full [] kA = false := by simp [full]
theorem right0 : rightT T0 = true := by decide
theorem right_no : rightT ⟨0, 0, [], []⟩ = false := by decide
theorem apply0 : applyL [] (T0.W.filter (pRWr [kA])) = some L1 := by
  have e : T0.W.filter (pRWr [kA]) = [⟨kA, vX⟩] := by rfl
  rw [e, applyL, bad_first, full_first, join_first]
  rfl
theorem fits0 : fitsT L1 T0 [kA, kB] = true := by decide
theorem two_keys {l : List ByteArray} {a b : ByteArray} (hl : l.Pairwise fun a b => lessK a b = true) (hm : ∀ k, k ∈ l ↔ k = a ∨ k = b) (hab : lessK a b = true) : l = [a, b] := by
  have hba : lessK b a = false := lessK_asymm hab
  match l, hl, hm with
  | [], _, hm => exact absurd ((hm a).2 (.inl rfl)) (by simp)
  | [x], _, hm =>
    have h1 := (hm a).2 (.inl rfl)
    have h2 := (hm b).2 (.inr rfl)
    simp at h1 h2
    rw [h1, h2, lessK_irr] at hab
    cases hab
  | x :: y :: r, hl, hm =>
    rw [List.pairwise_cons, List.pairwise_cons] at hl
    obtain ⟨h1, h2, _⟩ := hl
    have hxy := h1 y (by simp)
    have ex : x = a ∧ y = b := by
      rcases (hm x).1 (by simp) with rfl | rfl
      · rcases (hm y).1 (by simp) with rfl | rfl
        · rw [lessK_irr] at hxy; cases hxy
        · exact ⟨rfl, rfl⟩
      · rcases (hm y).1 (by simp) with rfl | rfl
        · rw [hba] at hxy; cases hxy
        · rw [lessK_irr] at hxy; cases hxy
    obtain ⟨rfl, rfl⟩ := ex
    cases r with
    | nil => rfl
    | cons z r =>
      have hz1 := h1 z (by simp)
      have hz2 := h2 z (by simp)
      rcases (hm z).1 (by simp) with rfl | rfl
      · rw [lessK_irr] at hz1; cases hz1
      · rw [lessK_irr] at hz2; cases hz2
theorem keys0 : keysT T0 = [kA, kB] := by
  refine two_keys (keysB_up _) (fun k => ?_) (by simp [lessK, Lib.toList_data, kA, kB, Op.bytesLess])
  rw [keysT_mem]
  simp [T0]
  constructor
  · rintro (h | h)
    · exact .inr h.symm
    · exact .inl h.symm
  · rintro (h | h)
    · exact .inr h.symm
    · exact .inl h.symm
theorem lies_rd1 {w : World} {g : Nat} (h : w.heap[g]? = some (.cells #[.string ⟨#[98]⟩, .int .i64 0] 53 (0, 0))) : LiesAt w (some ⟨g, 0, none⟩) 2 rdL T0.R := by
  intro i z hi
  refine ⟨g, 0, rfl, lt_of_heap h, fun j v hj => ?_⟩
  rw [cell_of_row w g _ _ _ _ h]
  match i, hi with
  | 0, hi =>
    simp [T0] at hi
    subst hi
    match j, hj with
    | 0, hj => simp [rdL] at hj; subst hj; rfl
    | 1, hj => simp [rdL] at hj; subst hj; rfl
    | j + 2, hj => simp [rdL] at hj
  | i + 1, hi => simp [T0] at hi
theorem lies_wr1 {w : World} {g : Nat} (h : w.heap[g]? = some (.cells #[.string ⟨#[97]⟩, .string ⟨#[120]⟩] 48 (0, 0))) : LiesAt w (some ⟨g, 0, none⟩) 2 wrL T0.W := by
  intro i z hi
  refine ⟨g, 0, rfl, lt_of_heap h, fun j v hj => ?_⟩
  rw [cell_of_row w g _ _ _ _ h]
  match i, hi with
  | 0, hi =>
    simp [T0] at hi
    subst hi
    match j, hj with
    | 0, hj => simp [wrL] at hj; subst hj; rfl
    | 1, hj => simp [wrL] at hj; subst hj; rfl
    | j + 2, hj => simp [wrL] at hj
  | i + 1, hi => simp [T0] at hi
theorem lies_k1 {w : World} {g : Nat} (h : w.heap[g]? = some (.cells #[.string ⟨#[97]⟩] 9 (0, 0))) : LiesAt w (some ⟨g, 0, none⟩) 1 strL [kA] := by
  intro i z hi
  refine ⟨g, 0, rfl, lt_of_heap h, fun j v hj => ?_⟩
  rw [cell_of_row w g _ _ _ _ h]
  match i, hi with
  | 0, hi =>
    simp at hi
    subst hi
    match j, hj with
    | 0, hj => simp [strL] at hj; subst hj; rfl
    | j + 1, hj => simp [strL] at hj
  | i + 1, hi => simp at hi
set_option maxRecDepth 100000 in
theorem snew (w : World) : Calls Tryz.prog 25 #[] w fun e w' => e = .returned (.pointer (some ⟨w.heap.size, 0, none⟩)) ∧ Below w.heap.size w w' ∧ StoreAt w' w.heap.size none 0 [] := by
  have HE : Hid (Below w.heap.size w (w.alloc (.cells #[.slice none 0 0] 92)) ∧ StoreAt (w.alloc (.cells #[.slice none 0 0] 92)) w.heap.size none 0 []) :=
    ⟨(Below.refl _ w).alloc (Nat.le_refl _) _, heap_alloc_new w _, ⟨fun i x hi => by simp at hi, fun _ => rfl, (fun b h => by cases h), Nat.le_refl _, Nat.zero_le _⟩, List.Pairwise.nil⟩
  go_enter Tryz.func25, Tryz.ntmps25
  go_wp2_with fail
  go_ret
  exact ⟨rfl, HE.out⟩
end Go.Proofs.YtaifmfnmgnmgbaaGreatDoor.Txn
