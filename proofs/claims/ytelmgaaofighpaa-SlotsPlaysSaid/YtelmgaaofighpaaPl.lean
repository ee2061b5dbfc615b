/- The open numbers: plain laws of the proofs by rising numbers. -/
import Derived.Test.YtelmgaaofighpaaPrf
namespace Go.Proofs.Ytelmgaaofighpaa
open Go.RowKit Go.My Go.My.Slots

theorem few_between : ∀ (n : Nat) (a : Int) (l : List Int), l.Nodup → (∀ x ∈ l, a < x ∧ x - a ≤ n) → l.length ≤ n
  | 0, a, l, _, h => by
    cases l with
    | nil => simp
    | cons x r => have := h x (by simp); omega
  | n + 1, a, l, hn, h => by
    by_cases hm : a + (n + 1 : Nat) ∈ l
    · have h1 := few_between n a (l.erase (a + (n + 1 : Nat))) (hn.erase _) (fun x hx => by
        have hx' := (hn.mem_erase_iff).1 hx
        have := h x hx'.2
        omega)
      have := List.length_erase_of_mem hm
      omega
    · have := few_between n a l hn (fun x hx => by
        have h2 := h x hx
        have : x ≠ a + (n + 1 : Nat) := fun e => hm (e ▸ hx)
        omega)
      omega
theorem inv_few {s : St} (h : Inv s) : s.proofs.length ≤ 16 := by
  have := few_between 16 s.low (s.proofs.map (·.1)) h.nproofs (fun x hx => by
    obtain ⟨p, hp, rfl⟩ := List.mem_map.1 hx
    have := (h.proofs p hp).1
    rw [openB_iff] at this
    exact ⟨this.1, by simpa using this.2⟩)
  simpa using this
theorem inv_wf {s : St} (h : Inv s) : ∀ p ∈ s.proofs, (Lit.int .i64 p.1).wf = true := by
  intro p hp
  have h1 := (h.proofs p hp).1
  rw [openB_iff] at h1
  have h2 := h.low0
  have h3 := h.low1
  have : -9223372036854775808 ≤ p.1 ∧ p.1 ≤ 9223372036854775807 := by omega
  simpa [Lit.wf, IntKind.min, IntKind.max, IntKind.bits, IntKind.signed] using this
theorem leI_tr (a b c : Int) (h1 : leI a b = true) (h2 : leI b c = true) : leI a c = true := by simp only [leI, decide_eq_true_eq] at *; omega
theorem leI_to (a b : Int) : (leI a b || leI b a) = true := by simp only [leI, Bool.or_eq_true, decide_eq_true_eq]; omega
theorem sortK_perm {V : Type} (l : List (Int × V)) : (sortK l).Perm (l.map (·.1)) := List.mergeSort_perm _ _
theorem sortK_up {V : Type} {l : List (Int × V)} (hn : (l.map (·.1)).Nodup) : (sortK l).Pairwise (· < ·) := by
  have h1 : (sortK l).Pairwise (fun a b => leI a b = true) := List.pairwise_mergeSort leI_tr leI_to _
  have h2 : (sortK l).Nodup := (sortK_perm l).nodup_iff.2 hn
  have h3 := h1.and h2
  refine h3.imp (fun {a b} h => ?_)
  have h4 := h.1
  have h5 := h.2
  simp only [leI, decide_eq_true_eq] at h4
  omega
theorem proofs_get {s : St} (h : Inv s) {k : Nat} {p : Int × Int × Int} (hp : (proofsL s)[k]? = some p) : (sortK s.proofs)[k]? = some p.1 ∧ (p.1, p) ∈ s.proofs := by
  unfold proofsL at hp
  rw [List.getElem?_map] at hp
  obtain ⟨n, hn, rfl⟩ := Option.map_eq_some_iff.1 hp
  have hm : n ∈ s.proofs.map (·.1) := (sortK_perm s.proofs).mem_iff.1 (List.mem_of_getElem? hn)
  obtain ⟨q, hq, rfl⟩ := List.mem_map.1 hm
  have hg := aget_mem h.nproofs (k := q.1) (v := q.2) hq
  rw [hg]
  have h1 := (h.proofs q hq).2.1
  simp only [Option.getD_some]
  rw [h1]
  exact ⟨hn, hq⟩
theorem proofs_open {s : St} (h : Inv s) {k : Nat} {p : Int × Int × Int} (hp : (proofsL s)[k]? = some p) : openB s p.1 = true := (h.proofs _ (proofs_get h hp).2).1
theorem proofs_up {s : St} (h : Inv s) {k : Nat} {p q : Int × Int × Int} (hp : (proofsL s)[k]? = some p) (hq : (proofsL s)[k + 1]? = some q) : p.1 < q.1 := by
  have h1 := (proofs_get h hp).1
  have h2 := (proofs_get h hq).1
  have h3 := sortK_up h.nproofs
  obtain ⟨hi, e1⟩ := List.getElem?_eq_some_iff.1 h1
  obtain ⟨hj, e2⟩ := List.getElem?_eq_some_iff.1 h2
  have := List.pairwise_iff_getElem.1 h3 k (k + 1) hi hj (by omega)
  rwa [e1, e2] at this
theorem proofsL_len (s : St) : (proofsL s).length = s.proofs.length := by simp [proofsL, sortK_len]
theorem proofsL_keys {s : St} (h : Inv s) : (proofsL s).map (·.1) = sortK s.proofs := by
  apply List.ext_getElem?
  intro i
  rw [List.getElem?_map]
  cases hp : (proofsL s)[i]? with
  | none =>
    have := List.getElem?_eq_none_iff.1 hp
    rw [proofsL_len] at this
    rw [List.getElem?_eq_none (by rw [sortK_len]; exact this)]
    rfl
  | some p => exact (proofs_get h hp).1.symm
theorem filter_len {α β : Type} (f : α → β) (q : β → Bool) (l : List α) : (l.filter fun x => q (f x)).length = ((l.map f).filter q).length := by
  rw [List.filter_map]
  simp [Function.comp_def]
theorem many_above {s : St} (h : Inv s) (low : Int) : ((proofsL s).filter fun p => decide (low < p.1)).length = (above low s.proofs).length := by
  rw [filter_len (fun p : Int × Int × Int => p.1) (fun x => decide (low < x)), proofsL_keys h, ((sortK_perm s.proofs).filter _).length_eq]
  unfold above
  rw [← filter_len]
theorem above_all {s : St} (h : Inv s) : above s.low s.proofs = s.proofs := by
  unfold above
  rw [List.filter_eq_self]
  intro p hp
  have := (h.proofs p hp).1
  rw [openB_iff] at this
  simpa using this.1
theorem cut_many {s : St} (h : Inv s) (low : Int) : ((proofsL s).filter fun p => decide ((cut s low).low < p.1)).length = (proofsL (cut s low)).length := by
  rw [many_above h, proofsL_len]
  unfold cut
  split
  · rfl
  · rw [above_all h]
theorem who_none {s : St} (h : Inv s) {n : Int} (hn : openB s n = false) (kind d : Int) : whoL s kind n d = [] := by
  unfold whoL
  rw [List.filter_eq_nil_iff]
  intro x _ hx
  simp only [decide_eq_true_eq] at hx
  have := (h.votes _ (aget_some_mem hx)).1
  simp only at this
  rw [hn] at this
  cases this
theorem acc_none {s : St} (h : Inv s) {n : Int} (hn : openB s n = false) : aget s.acc n = none := by
  cases hg : aget s.acc n with
  | none => rfl
  | some x =>
    have := (h.acc _ (aget_some_mem hg)).1
    simp only at this
    rw [hn] at this
    cases this
theorem dec_none {s : St} (h : Inv s) {n : Int} (hn : openB s n = false) : aget s.dec n = none := by
  cases hg : aget s.dec n with
  | none => rfl
  | some x =>
    have := (h.dec _ (aget_some_mem hg)).1
    simp only at this
    rw [hn] at this
    cases this
/-- Proofs, of what holds. -/
theorem proofs_inv (I : Ids) (s : St) (w : World) (h : SlotsAt w I s) (hi : Inv s) : Calls Try.prog 18 #[.pointer (some ⟨I.b, 0, none⟩)] w (PrfLeft w s) :=
  proofs_any I s w h (inv_wf hi) (by have := inv_few hi; omega)
end Go.Proofs.Ytelmgaaofighpaa
