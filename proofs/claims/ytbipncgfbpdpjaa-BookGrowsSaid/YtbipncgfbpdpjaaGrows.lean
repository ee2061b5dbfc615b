/- Book: the law of how many, what it needs. -/
import Derived.Test.YtbipncgfbpdpjaaOwn
namespace Go.Proofs.Ytbipncgfbpdpjaa
open Go.RowKit Go.My

theorem belowN (w : World) (n : Nat) : Below w.heap.size w (w.drewN n) := ⟨rfl, rfl, rfl, by simp, fun _ _ => rfl⟩
structure Gr (w : World) (base b m : Nat) (l : List ByteArray) (k : Nat) (ts : List ByteArray) (v : Value) (wr : World) : Prop where
  book : BookAt wr base b m v ts
  nodup : ts.Nodup
  few : ts.length ≤ k
  below : Below w.heap.size w wr
  size : base ≤ wr.heap.size
  came : ∀ s ∈ ts, ∃ j, j < k ∧ l[j]? = some s
  all : ∀ (j : Nat) s, j < k → l[j]? = some s → s.size ≤ 65536 → s ∈ ts
variable {w wr W : World} {base b m k : Nat} {l ts : List ByteArray} {v v' : Value}
theorem Gr.later (h : Gr w base b m l k ts v wr) (hb : Below wr.heap.size wr W) : Gr w base b m l k ts v W :=
  ⟨h.book.below hb, h.nodup, h.few, h.below.trans (hb.mono h.below.size), Nat.le_trans h.size hb.size, h.came, h.all⟩
/-- new memory alone was written -/
theorem Gr.fresh (h : Gr w base b m l k ts v wr) {N : Nat} (hN : N = wr.heap.size) {W2 : World} (hb : Below N wr W) {S : List Nat} (hw : Wrote S W W2) (hS : ∀ g ∈ S, N ≤ g) : Gr w base b m l k ts v W2 := by
  subst hN
  exact h.later (hb.trans (hw.below hb.size hS))
theorem Gr.long (h : Gr w base b m l k ts v wr) {s : ByteArray} (hk : l[k]? = some s) (hs : 65536 < s.size) : Gr w base b m l (k + 1) ts v wr := by
  refine ⟨h.book, h.nodup, Nat.le_succ_of_le h.few, h.below, h.size, fun t ht => ?_, fun j t hj ht hts => ?_⟩
  · obtain ⟨j, h1, h2⟩ := h.came t ht
    exact ⟨j, by omega, h2⟩
  · by_cases e : j = k
    · subst e
      rw [hk] at ht
      cases ht
      omega
    · exact h.all j t (by omega) ht hts
theorem Gr.asked (h : Gr w base b m l k ts v wr) {s : ByteArray} (hk : l[k]? = some s) (hw0 : w.heap.size ≤ base) (hB : BookAt W base b m v' (asked ts s)) (ht : Turned wr base b m v v' W) : Gr w base b m l (k + 1) (asked ts s) v' W := by
  obtain ⟨h1, h2, _, h4, h5⟩ := asked_ok s h.nodup
  have hm : ∀ t, t ∈ Ytbipncgfbpdpjaa.asked ts s ↔ t ∈ ts ∨ t = s := by
    intro t
    constructor
    · unfold Ytbipncgfbpdpjaa.asked
      split
      · exact .inl
      · intro ht
        simpa using ht
    · rintro (ht | rfl)
      · obtain ⟨j, hj⟩ := List.getElem?_of_mem ht
        exact List.mem_of_getElem? (h4 _ _ hj)
      · exact List.mem_of_getElem? h2
  refine ⟨hB, h1, by have := h.few; omega, h.below.trans (ht.below.mono hw0), Nat.le_trans h.size ht.below.size, fun t ht' => ?_, fun j t hj ht' hts => ?_⟩
  · rcases (hm t).1 ht' with h6 | rfl
    · obtain ⟨j, h7, h8⟩ := h.came t h6
      exact ⟨j, by omega, h8⟩
    · exact ⟨k, by omega, hk⟩
  · rw [hm]
    by_cases e : j = k
    · subst e
      rw [hk] at ht'
      cases ht'
      exact .inr rfl
    · exact .inl (h.all j t (by omega) ht' hts)

/-- Is a text fresh among the first j? -/
def freshB (l : List ByteArray) (s : ByteArray) (j : Nat) : Bool := decide (s.size ≤ 65536) && (l.take j).all fun t => decide (t ≠ s)
theorem fresh_zero (l : List ByteArray) (s : ByteArray) : freshB l s 0 = decide (s.size ≤ 65536) := by simp [freshB]
theorem fresh_succ {l : List ByteArray} {j : Nat} {t : ByteArray} (s : ByteArray) (h : l[j]? = some t) : freshB l s (j + 1) = (freshB l s j && decide (t ≠ s)) := by
  unfold freshB
  rw [List.take_add_one, h]
  simp [Bool.and_assoc]
theorem fresh_is (h : Gr w base b m l k ts v wr) (s : ByteArray) : freshB l s k = true ↔ s.size ≤ 65536 ∧ s ∉ ts := by
  unfold freshB
  simp only [Bool.and_eq_true, decide_eq_true_eq, List.all_eq_true]
  constructor
  · rintro ⟨hs, h1⟩
    refine ⟨hs, fun hm => ?_⟩
    obtain ⟨j, hj, hl⟩ := h.came s hm
    exact h1 s (List.mem_of_getElem? (i := j) (by rw [List.getElem?_take, if_pos hj, hl])) rfl
  · rintro ⟨hs, h1⟩
    refine ⟨hs, ?_⟩
    rintro t ht rfl
    obtain ⟨j, hj⟩ := List.getElem?_of_mem ht
    rw [List.getElem?_take] at hj
    split at hj
    · exact h1 (h.all j t (by assumption) hj hs)
    · cases hj
theorem fresh_len (h : Gr w base b m l k ts v wr) (s : ByteArray) (hs : s.size ≤ 65536) : (asked ts s).length = if freshB l s k then ts.length + 1 else ts.length := by
  have hi := fresh_is h s
  by_cases hm : s ∈ ts
  · obtain ⟨j, hj⟩ := List.getElem?_of_mem hm
    have h1 := placed_some h.nodup hj
    rw [if_neg (fun e => (hi.1 e).2 hm)]
    unfold Ytbipncgfbpdpjaa.asked
    rw [h1]
    rfl
  · have h1 := placed_none hm
    rw [if_pos (hi.2 ⟨hs, hm⟩)]
    unfold Ytbipncgfbpdpjaa.asked
    rw [h1]
    simp
end Go.Proofs.Ytbipncgfbpdpjaa
