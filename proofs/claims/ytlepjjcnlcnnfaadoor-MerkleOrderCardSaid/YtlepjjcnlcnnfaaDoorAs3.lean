/- errors.As: its contracts, at the top. -/
import Derived.Test.YtlepjjcnlcnnfaaDoorAs2
namespace Go.Proofs.YtlepjjcnlcnnfaaDoor
open Go.RowKit Go.My Go.Extern.Stop Go.Stop Go.Extern
set_option maxRecDepth 100000 in
set_option maxHeartbeats 4000000 in
/-- errors.As at a number that came through steps: the variable holds it. -/
theorem asN_hit (n : Int) (st : List StepT) (tb : Nat) (o0 : Value) (w : World) (hg : TypeIs w) (ht : w.heap[tb]? = some (.cells #[o0] 41 (0, 0))) :
    Calls Tryd.prog 23 #[errOf n st, .iface 62 (.pointer (some ⟨tb, 0, none⟩))] w fun e w' => e = .returned (.bool true) ∧ Wrote [tb] w w' ∧ w'.heap[tb]? = some (.cells #[.int .i64 n] 41 (0, 0)) := by
  have h21 := @run_callFunc_extern Tryd.prog 35 _ (fun args => ReflectliteValue.unpack (args.getD 0 (.tuple #[]))) Tryd.func35 (by kernel_rfl) (by kernel_rfl) (by kernel_rfl) (by kernel_rfl)
  have h22 := @run_callFunc_extern Tryd.prog 36 _ (ReflectliteValue.methodAny (ReflectliteValue.valueError "reflectlite.Value.Type" 0) (fun t _ _ _ => ReflectliteType.toType t)) Tryd.func36 (by kernel_rfl) (by kernel_rfl) (by kernel_rfl) (by kernel_rfl)
  have h23 := @run_callFunc_extern Tryd.prog 37 _ (ReflectliteValue.method (ReflectliteValue.valueError "reflectlite.Value.IsNil" 0) ReflectliteValue.isNil) Tryd.func37 (by kernel_rfl) (by kernel_rfl) (by kernel_rfl) (by kernel_rfl)
  have h56 := @run_callFunc_extern Tryd.prog 73 _ (ReflectliteType.abiMethod fun t => do pure (.int .u8 (← Rtype.kind t))) Tryd.func73 (by kernel_rfl) (by kernel_rfl) (by kernel_rfl) (by kernel_rfl)
  have h68 := @run_callFunc_extern Tryd.prog 99 _ (ReflectliteType.method ReflectliteType.elem) Tryd.func99 (by kernel_rfl) (by kernel_rfl) (by kernel_rfl) (by kernel_rfl)
  have h69 := @run_callFunc_extern Tryd.prog 100 _ (ReflectliteType.relation "Implements" ReflectliteType.implements_) Tryd.func100 (by kernel_rfl) (by kernel_rfl) (by kernel_rfl) (by kernel_rfl)
  have f21 := valueOfP
  have f22 := typeP
  have mK := methodKind
  have mE := methodElem
  have mI := methodImplements
  have kP := kindP
  have kN := kindN
  have eP := elemP
  have iN := implementsN
  obtain ⟨W1, hW1⟩ : ∃ W1, W1 = w.alloc (.cells #[.pointer (some ⟨tb, 0, none⟩)] 62) := ⟨_, rfl⟩
  obtain ⟨W2, hW2⟩ : ∃ W2, W2 = W1.alloc (.cells #[.pointer (some ⟨4, 62, none⟩), .pointer (some ⟨w.heap.size, 0, none⟩), .int .u64 150] 74) := ⟨_, rfl⟩
  have hb1 : Below w.heap.size w W1 := by rw [hW1]; exact (Below.refl _ w).alloc (Nat.le_refl _) _
  have hb2 : Below w.heap.size w W2 := by rw [hW2]; exact hb1.alloc hb1.size _
  have hrow1 : W1.heap[w.heap.size]? = some (.cells #[.pointer (some ⟨tb, 0, none⟩)] 62 (0, 0)) := by rw [hW1]; exact heap_alloc_new w _
  have hrow : W2.heap[w.heap.size]? = some (.cells #[.pointer (some ⟨tb, 0, none⟩)] 62 (0, 0)) := by rw [hW2, Below.heap_alloc _ _ _ (lt_of_heap hrow1)]; exact hrow1
  have hbox : W2.cell? ⟨w.heap.size, 0, none⟩ = some (.pointer (some ⟨tb, 0, none⟩)) := by rw [cell_of_row _ _ _ _ _ _ hrow]; rfl
  have n23 := isNilP ⟨w.heap.size, 0, none⟩ ⟨tb, 0, none⟩ W2 hbox
  have hg2 : W2.cell? ⟨0, 0, none⟩ = some (.iface 104 (.agg #[.pointer (some ⟨4, 32, none⟩)])) := (hb2.cell (p := ⟨0, 0, none⟩) hg.lt).trans hg
  have HC := Lib.hid (as_hitN n st tb w.heap.size o0 W2 hbox ((hb2.block _ (lt_of_heap ht)).trans ht))
  obtain ⟨T, v, hE⟩ := errOf_form n st
  rw [hE] at HC ⊢
  have HB2 : Hid (Below w.heap.size w W2) := hb2
  clear hE hb1 hb2 hrow1 hrow hbox ht hg
  subst hW2 hW1
  go_enter Tryd.func23, Tryd.ntmps23
  go_wp2_with (go_at_call 38; refine HC.out.mono ?_; rintro e w' ⟨rfl, hw, hh⟩)
  go_ret
  exact ⟨rfl, ((Wrote.of_below (S := []) HB2.out).mono (T := [tb]) (by simp)).trans hw, hh⟩
end Go.Proofs.YtlepjjcnlcnnfaaDoor

