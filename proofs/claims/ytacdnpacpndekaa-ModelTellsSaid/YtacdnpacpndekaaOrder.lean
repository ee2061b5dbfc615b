/- The model: what is left lies in order. -/
import Derived.Test.YtacdnpacpndekaaFacts
namespace Go.Proofs.Ytacdnpacpndekaa
open Go.RowKit Go.Maps Go.Sort Go.Shelf Go.My Go.My.Model Go.Deep
theorem less_lt : ∀ (x y : List UInt8), Op.bytesLess x y = decide (x < y)
  | [], [] => by simp [Op.bytesLess]
  | _ :: _, [] => by simp [Op.bytesLess]
  | [], _ :: _ => by simp [Op.bytesLess]
  | a :: x, b :: y => by
    rw [Op.bytesLess, less_lt x y]
    simp only [List.cons_lt_cons_iff]
    by_cases h1 : a < b <;> by_cases h2 : a = b <;> by_cases h3 : x < y <;> simp [h1, h2, h3]
theorem sortS_lt {V : Type} {m : List (ByteArray × V)} (hn : (m.map (·.1)).Nodup) : (sortS m).Pairwise fun x y => Op.bytesLess x.toList y.toList = true := by
  have h1 : ((m.map (·.1.data.toList)).mergeSort leB).Pairwise (fun x y => x ≤ y) := by
    have := List.pairwise_mergeSort (le := leB) (fun a b c => by simpa [leB] using fun h1 h2 => List.le_trans h1 h2) (fun a b => by simpa [leB] using List.le_total a b) (m.map (·.1.data.toList))
    exact this.imp fun h => by simpa [leB] using h
  have h2 : ((m.map (·.1.data.toList)).mergeSort leB).Nodup := by
    refine (List.mergeSort_perm _ _).nodup_iff.2 ?_
    have e : m.map (·.1.data.toList) = (m.map (·.1)).map fun s => s.data.toList := by simp
    rw [e]
    refine List.Pairwise.map _ (fun a b h hab => h ?_) hn
    cases a; cases b; simp at hab; rw [hab]
  have h3 := h1.and h2
  unfold sortS
  refine List.Pairwise.map _ (fun x y h => ?_) h3
  rw [less_lt, Lib.toList_data, Lib.toList_data]
  simp only [decide_eq_true_eq]
  exact Classical.byContradiction fun hl => h.2 (List.le_antisymm h.1 (List.not_lt.1 hl))
theorem run_lt {ws : List Wri} {i : Nat} {e e' : Ent} (h : (runL (stateOf ws))[i]? = some e) (h' : (runL (stateOf ws))[i + 1]? = some e') : Op.bytesLess e.key.toList e'.key.toList = true := by
  have hp := sortS_lt (good_state ws).nodup
  rw [runL_eq, List.getElem?_map] at h h'
  cases hs : (sortS (stateOf ws))[i]? with
  | none => rw [hs] at h; cases h
  | some s =>
    cases hs' : (sortS (stateOf ws))[i + 1]? with
    | none => rw [hs'] at h'; cases h'
    | some s' =>
      rw [hs] at h
      rw [hs'] at h'
      obtain rfl := Option.some.inj h
      obtain rfl := Option.some.inj h'
      obtain ⟨a1, rfl⟩ := List.getElem?_eq_some_iff.1 hs
      obtain ⟨a2, rfl⟩ := List.getElem?_eq_some_iff.1 hs'
      exact List.pairwise_iff_getElem.1 hp i (i + 1) a1 a2 (by omega)
theorem vals_last (ws : List Wri) (k : ByteArray) (h : countK ws k ≠ 0) : (vals ws k).getD (countK ws k - 1) ByteArray.empty = lastV ws k := by
  induction ws using snoc_ind with
  | h0 => exact absurd rfl h
  | h1 ws x ih =>
    rw [vals_snoc, countK_snoc, lastV_snoc]
    by_cases hk : x.1 = k
    · rw [if_pos hk, if_pos hk, if_pos hk, ← vals_len ws k]
      simp [List.getD]
    · rw [if_neg hk, if_neg hk, if_neg hk]
      rw [countK_snoc, if_neg hk] at h
      exact ih h
theorem at_last (ws : List Wri) (k : ByteArray) (h : countK ws k ≠ 0) : atEnt ws k (countK ws k : Int) = entOf ws k := by
  have ho : atOk ws k (countK ws k : Int) = true := by simp [atOk]; omega
  unfold atEnt entOf
  rw [if_pos ho, ← vals_last ws k h]
  congr 2
  omega
end Go.Proofs.Ytacdnpacpndekaa
