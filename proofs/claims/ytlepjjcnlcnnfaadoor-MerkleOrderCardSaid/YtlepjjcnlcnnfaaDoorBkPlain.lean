/- Book: plain laws of places. -/
import Derived.Test.YtlepjjcnlcnnfaaDoorBkDig
namespace Go.Proofs.YtlepjjcnlcnnfaaDoor.Book
open Go.RowKit Go.My

theorem aget_zip : ∀ (ts : List ByteArray) (k j : Nat) (s : ByteArray), ts.Nodup → ts[j]? = some s → aget (ts.zipIdx k) s = some (k + j)
  | [], _, _, _, _, h => by simp at h
  | t :: ts, k, j, s, hn, h => by
    rw [List.zipIdx_cons, aget_cons]
    cases j with
    | zero =>
      simp at h
      rw [if_pos h]
      rfl
    | succ j =>
      have h' : ts[j]? = some s := by simpa using h
      have hne : t ≠ s := fun e => (List.nodup_cons.1 hn).1 (e ▸ List.mem_of_getElem? h')
      rw [if_neg hne, aget_zip ts (k + 1) j s (List.nodup_cons.1 hn).2 h']
      congr 1
      omega
theorem placed_some {ts : List ByteArray} {j : Nat} {s : ByteArray} (hn : ts.Nodup) (h : ts[j]? = some s) : aget (placed ts) s = some j := by
  have := aget_zip ts 0 j s hn h
  simpa [placed] using this
theorem placed_none {ts : List ByteArray} {s : ByteArray} (h : s ∉ ts) : aget (placed ts) s = none := by
  rw [aget_none]
  rintro ⟨t, i⟩ hp
  have : t ∈ ts := by
    have := List.mem_zipIdx' hp
    exact this.2 ▸ List.getElem_mem _
  exact fun e => h (e ▸ this)
end Go.Proofs.YtlepjjcnlcnnfaaDoor.Book
