/- Txn: keys, sorted, each once: plain. -/
import Derived.Test.YtaifmfnmgnmgbaaGreatDoorTxSame
import Derived.Test.YtaifmfnmgnmgbaaGreatDoorBase
import Derived.Lib.SlicesCompact
import Derived.Lib.RowBridge
namespace Go.Proofs.YtaifmfnmgnmgbaaGreatDoor.Txn
open Go.My Go.Lib

theorem comp_all {d : Array (List UInt8)} : ∀ m i, i < m → d[i]! ∈ compactUpTo d m
  | m + 1, i, h => by
    rw [compactUpTo_succ, List.mem_append]
    by_cases hi : i < m
    · exact .inl (comp_all m i hi)
    · obtain rfl : i = m := by omega
      cases hk : keeps d i with
      | true => right; simp
      | false =>
        left
        unfold keeps at hk
        have := of_decide_eq_false hk
        by_cases h0 : i = 0
        · exact absurd (.inl h0) this
        · have e : d[i]! = d[i - 1]! := Classical.byContradiction fun h => this (.inr h)
          rw [e]
          exact comp_all i (i - 1) (by omega)
theorem comp_of {d : Array (List UInt8)} {m : Nat} {x : List UInt8} (h : x ∈ compactUpTo d m) : ∃ i, i < m ∧ x = d[i]! := by
  unfold compactUpTo at h
  obtain ⟨i, hi, rfl⟩ := List.mem_map.1 h
  exact ⟨i, List.mem_range.1 (List.mem_filter.1 hi).1, rfl⟩
theorem comp_lt {d : Array (List UInt8)} {m : Nat} (hm : m ≤ d.size) (h : ∀ i j, i < j → j < d.size → d[i]! ≤ d[j]!) : (compactUpTo d m).Pairwise (· < ·) := by
  unfold compactUpTo
  refine List.pairwise_map.2 ?_
  have h1 : ((List.range m).filter (keeps d)).Pairwise (· < ·) := List.Pairwise.filter _ List.pairwise_lt_range
  refine h1.imp_of_mem fun {i j} hi hj hij => ?_
  obtain ⟨h2, h3⟩ := List.mem_filter.1 hj
  have hjm := List.mem_range.1 h2
  unfold keeps at h3
  rcases of_decide_eq_true h3 with h0 | hne
  · omega
  · have a1 : d[j - 1]! ≤ d[j]! := h (j - 1) j (by omega) (by omega)
    have a2 : d[j - 1]! < d[j]! := by
      refine Classical.byContradiction fun hn => hne ?_
      exact List.le_antisymm (List.not_lt.1 hn) a1
    by_cases e : i = j - 1
    · rw [e]; exact a2
    · have a3 := h i (j - 1) (by omega) (by omega)
      exact List.lt_of_le_of_lt a3 a2
def toB (x : List UInt8) : ByteArray := ⟨x.toArray⟩
def keysB (l : List ByteArray) : List ByteArray := (compact ((l.map (·.data.toList)).mergeSort fun x y => decide (x ≤ y))).map toB
theorem toB_data (x : ByteArray) : toB x.data.toList = x := by
  unfold toB
  cases x
  simp
theorem keysB_mem {l : List ByteArray} {k : ByteArray} : k ∈ keysB l ↔ k ∈ l := by
  unfold keysB
  constructor
  · intro h
    obtain ⟨x, hx, rfl⟩ := List.mem_map.1 h
    obtain ⟨i, hi, rfl⟩ := comp_of hx
    have : ((l.map (·.data.toList)).mergeSort fun x y => decide (x ≤ y)).toArray[i]! ∈ ((l.map (·.data.toList)).mergeSort fun x y => decide (x ≤ y)) := by
      rw [getElem!_pos _ _ (by simpa using hi)]
      simp
    rw [(List.mergeSort_perm _ _).mem_iff] at this
    obtain ⟨y, hy, e⟩ := List.mem_map.1 this
    rw [← e, toB_data]
    exact hy
  · intro h
    have h1 : k.data.toList ∈ ((l.map (·.data.toList)).mergeSort fun x y => decide (x ≤ y)) := by
      rw [(List.mergeSort_perm _ _).mem_iff]
      exact List.mem_map.2 ⟨k, h, rfl⟩
    obtain ⟨i, hi, e⟩ := List.mem_iff_getElem.1 h1
    refine List.mem_map.2 ⟨_, comp_all _ i hi, ?_⟩
    rw [getElem!_pos _ _ (by simpa using hi)]
    simp only [List.getElem_toArray]
    rw [e, toB_data]
theorem keysB_lt (l : List ByteArray) : (keysB l).Pairwise fun a b => a.data.toList < b.data.toList := by
  unfold keysB
  refine List.pairwise_map.2 ?_
  have h1 : ((l.map (·.data.toList)).mergeSort fun x y => decide (x ≤ y)).Pairwise (fun x y => x ≤ y) := by
    have := List.pairwise_mergeSort (le := fun x y => decide (x ≤ y)) (fun a b c => by simpa using fun h1 h2 => List.le_trans h1 h2) (fun a b => by simpa using List.le_total a b) (l.map (·.data.toList))
    exact this.imp (fun h => by simpa using h)
  refine (comp_lt (by simp) ?_).imp fun {a b} h => by simpa [toB] using h
  intro i j hij hj
  have hj' : j < ((l.map (·.data.toList)).mergeSort fun x y => decide (x ≤ y)).length := by simpa using hj
  rw [getElem!_pos _ _ (by simpa using (Nat.lt_trans hij hj')), getElem!_pos _ _ (by simpa using hj')]
  simp only [List.getElem_toArray]
  exact List.pairwise_iff_getElem.1 h1 i j _ _ hij
theorem keysB_len (l : List ByteArray) : (keysB l).length ≤ l.length := by
  unfold keysB
  rw [List.length_map]
  have := compact_length_le ((l.map (·.data.toList)).mergeSort fun x y => decide (x ≤ y))
  rw [List.length_mergeSort, List.length_map] at this
  exact this
theorem keysB_up (l : List ByteArray) : (keysB l).Pairwise fun a b => lessK a b = true := (keysB_lt l).imp fun {a b} h => by
  rw [lessK_lt, toList_data, toList_data]
  exact h
/-- the keys that a transaction names, as they come -/
def namedT (t : Tx) : List ByteArray := t.R.map (·.key) ++ t.W.map (·.key)
def keysT (t : Tx) : List ByteArray := keysB (namedT t)
theorem keysT_mem {t : Tx} {k : ByteArray} : k ∈ keysT t ↔ (∃ x ∈ t.R, x.key = k) ∨ (∃ x ∈ t.W, x.key = k) := by
  unfold keysT namedT
  rw [keysB_mem, List.mem_append, List.mem_map, List.mem_map]
end Go.Proofs.YtaifmfnmgnmgbaaGreatDoor.Txn
