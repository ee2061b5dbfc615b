/- fault: Code and Trail. -/
import Derived.Test.YtaifmfnmgnmgbaaGreatDoorAs3
import Derived.Test.YtaifmfnmgnmgbaaGreatDoorOpen
import Derived.Laws.AppendOwn
namespace Go.Proofs.YtaifmfnmgnmgbaaGreatDoor
open Go.RowKit Go.My
set_option maxRecDepth 100000 in
theorem code_nil (w : World) : Calls Tryz.prog 26 #[.nilIface] w fun e w' => e = .returned (.int .i64 0) ∧ Below w.heap.size w w' := by
  have HB : Hid (∀ o, Below w.heap.size w (w.alloc o)) := fun o => (Below.refl _ w).alloc (Nat.le_refl _) o
  go_enter Tryz.func26, Tryz.ntmps26
  go_wp2_with fail
  go_ret
  exact ⟨rfl, HB.out _⟩
set_option maxRecDepth 100000 in
theorem code_of (n : Int) (st : List StepT) (w : World) (hg : TypeIs w) : Calls Tryz.prog 26 #[errOf n st] w fun e w' => e = .returned (.int .i64 n) ∧ Below w.heap.size w w' := by
  obtain ⟨W1, hW1⟩ : ∃ W1, W1 = w.alloc (.cells #[.int .i64 9] 70) := ⟨_, rfl⟩
  have hb1 : Below w.heap.size w W1 := by rw [hW1]; exact (Below.refl _ w).alloc (Nat.le_refl _) _
  have HB1 := Lib.hid hb1
  have HC := Lib.hid (asN_hit n st w.heap.size (.int .i64 9) W1 (hg.below hg.lt hb1) (by rw [hW1]; exact heap_alloc_new w _))
  obtain ⟨T, v, hE⟩ := errOf_form n st
  rw [hE] at HC ⊢
  clear hE hb1 hg
  subst hW1
  go_enter Tryz.func26, Tryz.ntmps26
  go_wp2_with fail
  refine HC.out.mono ?_
  rintro e w' ⟨rfl, hw, hh⟩
  have hc : w'.cell? ⟨w.heap.size, 0, none⟩ = some (.int .i64 n) := by rw [cell_of_row _ _ _ _ _ _ hh]; rfl
  have hl := lt_of_heap hh
  have HE : Hid (Below w.heap.size w w') := HB1.out.trans (hw.below HB1.out.size fun g hg => by
    obtain rfl : g = w.heap.size := by simpa using hg
    exact Nat.le_refl _)
  clear hw hh
  go_wp2_with fail
  go_ret
  exact ⟨rfl, HE.out⟩
def stepL (s : StepT) : List Value := [.string s.1, .int .i64 s.2]
theorem stepL_len (s : StepT) : (stepL s).length = 2 := rfl
theorem step_info : (Tryz.prog.info? 161).map (fun i => (i.zero, i.size, i.bytes)) = some (some (.agg #[.string ByteArray.empty, .int .i64 0]), 2, 24) := by kernel_rfl
/-- What Trail leaves: the steps, in a row of its own. -/
def TrailLeft (w : World) (st : List StepT) (e : Ending) (w' : World) : Prop := ∃ v, e = .returned v ∧ w'.ownsRow w.heap.size 161 2 v st.length (st.flatMap stepL) ∧ Below w.heap.size w w'
theorem two_cells (w : World) (s : StepT) (t : TypeId) (j : Nat) (u : Value) (h : (stepL s)[j]? = some u) : (w.alloc (.cells #[.string s.1, .int .i64 s.2] t)).cell? ((⟨w.heap.size, 0, none⟩ : Addr).add j) = some u := by
  rw [Addr.add_lit, Nat.zero_add, cell_of_row _ _ _ _ _ _ (heap_alloc_new w _)]
  simpa [stepL] using h
end Go.Proofs.YtaifmfnmgnmgbaaGreatDoor

