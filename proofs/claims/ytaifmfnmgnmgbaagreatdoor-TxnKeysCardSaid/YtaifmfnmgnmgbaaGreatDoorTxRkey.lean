/- Txn: what may be a transaction. -/
import Derived.Test.YtaifmfnmgnmgbaaGreatDoorTxRd
import Derived.Test.YtaifmfnmgnmgbaaGreatDoorBase
import Derived.WalkLawsBesides
import Derived.BigQuiet
import Derived.Deep.QuietTactic
namespace Go.Proofs.YtaifmfnmgnmgbaaGreatDoor.Txn
open Go.RowKit Go.My

theorem okR_all {l : List Rd} (h : ∀ i, i < l.length → okR l i = true) : risesR l = decide (l.length ≤ 8) := by
  unfold risesR
  have : (List.range l.length).all (okR l) = true := by
    rw [List.all_eq_true]
    intro i hi
    exact h i (by simpa using hi)
  rw [this, Bool.true_and]
theorem okR_no {l : List Rd} {i : Nat} (hi : i < l.length) (h : okR l i = false) : risesR l = false := by
  unfold risesR
  have : (List.range l.length).all (okR l) = false := by
    rw [List.all_eq_false]
    exact ⟨i, by simpa using hi, by simp [h]⟩
  rw [this, Bool.false_and]
theorem okW_all {l : List Wr} (h : ∀ i, i < l.length → okW l i = true) : risesW l = decide (l.length ≤ 8) := by
  unfold risesW
  have : (List.range l.length).all (okW l) = true := by
    rw [List.all_eq_true]
    intro i hi
    exact h i (by simpa using hi)
  rw [this, Bool.true_and]
theorem okW_no {l : List Wr} {i : Nat} (hi : i < l.length) (h : okW l i = false) : risesW l = false := by
  unfold risesW
  have : (List.range l.length).all (okW l) = false := by
    rw [List.all_eq_false]
    exact ⟨i, by simpa using hi, by simp [h]⟩
  rw [this, Bool.false_and]
set_option maxRecDepth 100000 in
theorem read_key (k : ByteArray) (v : Int) (w : World) : Calls Tryz.prog 46 #[.agg #[.string k, .int .i64 v]] w (KeyL w k) := by
  have HB := Lib.hid (bl_alloc w)
  go_enter Tryz.func46, Tryz.ntmps46
  go_wp2
  go_ret
  exact ⟨rfl, HB.out _⟩
set_option maxRecDepth 100000 in
theorem written_key (k v : ByteArray) (w : World) : Calls Tryz.prog 48 #[.agg #[.string k, .string v]] w (KeyL w k) := by
  have HB := Lib.hid (bl_alloc w)
  go_enter Tryz.func48, Tryz.ntmps48
  go_wp2
  go_ret
  exact ⟨rfl, HB.out _⟩
set_option maxRecDepth 100000 in
theorem right_rd (k : ByteArray) (v : Int) (w : World) : Calls Tryz.prog 70 #[.agg #[.string k, .int .i64 v]] w (BoolL w (decide (0 ≤ v) && decide (v ≤ 1099511627776))) := by
  have HB := Lib.hid (bl_alloc w)
  by_cases h0 : 0 ≤ v
  · have g0 : decide (0 ≤ v) = true := decide_eq_true h0
    by_cases h1 : v ≤ 1099511627776
    · have g1 : decide (v ≤ 1099511627776) = true := decide_eq_true h1
      rw [g0, g1]
      go_enter Tryz.func70, Tryz.ntmps70
      go_wp2
      go_ret
      exact ⟨rfl, HB.out _⟩
    · have g1 : decide (v ≤ 1099511627776) = false := decide_eq_false h1
      rw [g0, g1]
      go_enter Tryz.func70, Tryz.ntmps70
      go_wp2
      go_ret
      exact ⟨rfl, HB.out _⟩
  · have g0 : decide (0 ≤ v) = false := decide_eq_false h0
    rw [g0]
    go_enter Tryz.func70, Tryz.ntmps70
    go_wp2
    go_ret
    exact ⟨rfl, HB.out _⟩
set_option maxRecDepth 100000 in
theorem right_wr (k v : ByteArray) (w : World) : Calls Tryz.prog 72 #[.agg #[.string k, .string v]] w (BoolL w (decide (v.size ≤ 64))) := by
  have HB := Lib.hid (bl_alloc w)
  by_cases h1 : v.size ≤ 64
  · have g1 : decide (v.size ≤ 64) = true := decide_eq_true h1
    have g2 : (v.size : Int) ≤ 64 := by omega
    rw [g1]
    go_enter Tryz.func72, Tryz.ntmps72
    go_wp2
    go_ret
    exact ⟨rfl, HB.out _⟩
  · have g1 : decide (v.size ≤ 64) = false := decide_eq_false h1
    have g2 : ¬ (v.size : Int) ≤ 64 := by omega
    rw [g1]
    go_enter Tryz.func72, Tryz.ntmps72
    go_wp2
    go_ret
    exact ⟨rfl, HB.out _⟩
end Go.Proofs.YtaifmfnmgnmgbaaGreatDoor.Txn
