/- General: lists of keys: whether one is among them; sorted. Nothing here names a program. -/
import Derived.Test.YtfojgghnkjmjhaaDoorLess
import Derived.Sort.KeysCollected
namespace Go.My
theorem snoc_ind {α : Type} {p : List α → Prop} (nil : p []) (snoc : ∀ l x, p l → p (l ++ [x])) (l : List α) : p l := by
  have h : ∀ l : List α, p l.reverse := by
    intro l
    induction l with
    | nil => exact nil
    | cons x l ih => rw [List.reverse_cons]; exact snoc _ _ ih
  have := h l.reverse
  rwa [List.reverse_reverse] at this
def hasK (l : List ByteArray) (k : ByteArray) : Bool := l.any fun x => decide (x = k)
theorem hasK_iff {l : List ByteArray} {k : ByteArray} : hasK l k = true ↔ k ∈ l := by
  unfold hasK
  rw [List.any_eq_true]
  constructor
  · rintro ⟨x, hx, h⟩
    have : x = k := by simpa using h
    rwa [this] at hx
  · exact fun h => ⟨k, h, by simp⟩
theorem hasK_snoc (f : List ByteArray) (x k : ByteArray) : hasK (f ++ [x]) k = (hasK f k || decide (x = k)) := by
  unfold hasK; rw [List.any_append]; simp
theorem nodup_len {α : Type} [DecidableEq α] : ∀ {l m : List α}, l.Nodup → (∀ x ∈ l, x ∈ m) → l.length ≤ m.length
  | [], _, _, _ => Nat.zero_le _
  | x :: l, m, hn, h => by
    obtain ⟨h1, h2⟩ := List.nodup_cons.1 hn
    have hx := h x (by simp)
    have := nodup_len (m := m.erase x) h2 fun y hy => (List.mem_erase_of_ne (by rintro rfl; exact h1 hy)).2 (h y (by simp [hy]))
    rw [List.length_erase_of_mem hx] at this
    have hp := List.length_pos_of_mem hx
    simp only [List.length_cons]
    omega
theorem hasK_not {l : List ByteArray} {k : ByteArray} : hasK l k = false ↔ ¬ k ∈ l := by
  rw [← hasK_iff]; simp
/-! ### sorted lists of keys -/
def sortB (l : List ByteArray) : List ByteArray := ((l.map (·.data.toList)).mergeSort leB).map fun x => ⟨x.toArray⟩
theorem bytes_back (l : List ByteArray) : (l.map (·.data.toList)).map (fun x => (⟨x.toArray⟩ : ByteArray)) = l := by
  rw [List.map_map]
  conv => rhs; rw [← List.map_id l]
  refine List.map_congr_left fun x _ => ?_
  cases x
  simp
theorem sortB_perm (l : List ByteArray) : (sortB l).Perm l := by
  have h := (List.mergeSort_perm (l.map (·.data.toList)) leB).map (fun x => (⟨x.toArray⟩ : ByteArray))
  rw [bytes_back] at h
  exact h
theorem sortB_congr {l l' : List ByteArray} (h : l.Perm l') : sortB l = sortB l' := by
  unfold sortB
  rw [mergeSort_of_perm (h.map _)]
theorem sortB_lt {l : List ByteArray} (hn : l.Nodup) : (sortB l).Pairwise (fun a b => lessK a b = true) := by
  have h1 : ((l.map (·.data.toList)).mergeSort leB).Pairwise (fun x y => x ≤ y) := by
    have := List.pairwise_mergeSort (le := leB) (fun a b c => by simpa [leB] using fun h1 h2 => List.le_trans h1 h2) (fun a b => by simpa [leB] using List.le_total a b) (l.map (·.data.toList))
    exact this.imp (fun h => by simpa [leB] using h)
  have h2 : ((l.map (·.data.toList)).mergeSort leB).Nodup := by
    refine (List.mergeSort_perm _ _).nodup_iff.2 ?_
    refine List.pairwise_map.2 (hn.imp fun {a b} hne e => hne ?_)
    cases a with | mk a => cases b with | mk b => cases a; cases b; simp at e; rw [e]
  unfold sortB
  refine List.pairwise_map.2 ((h1.and h2).imp fun {a b} h => ?_)
  rw [lessK_lt, Lib.toList_data, Lib.toList_data]
  rcases List.le_iff_lt_or_eq.1 h.1 with h3 | h3
  · exact h3
  · exact absurd h3 h.2
theorem mem_sortB {l : List ByteArray} {k : ByteArray} : k ∈ sortB l ↔ k ∈ l := (sortB_perm l).mem_iff
theorem length_sortB (l : List ByteArray) : (sortB l).length = l.length := (sortB_perm l).length_eq

end Go.My
