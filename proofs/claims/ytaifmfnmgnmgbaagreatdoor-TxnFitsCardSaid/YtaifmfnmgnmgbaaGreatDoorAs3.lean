/- errors.As: its contracts, at the top. -/
import Derived.Test.YtaifmfnmgnmgbaaGreatDoorAs2
namespace Go.Proofs.YtaifmfnmgnmgbaaGreatDoor
open Go.RowKit Go.My Go.Extern.Stop Go.Stop Go.Extern
set_option maxRecDepth 100000 in
set_option maxHeartbeats 4000000 in
/-- errors.As at a number that came through steps: the variable holds it. -/
theorem asN_hit (n : Int) (st : List StepT) (tb : Nat) (o0 : Value) (w : World) (hg : TypeIs w) (ht : w.heap[tb]? = some (.cells #[o0] 70 (0, 0))) :
    Calls Tryz.prog 60 #[errOf n st, .iface 116 (.pointer (some ⟨tb, 0, none⟩))] w fun e w' => e = .returned (.bool true) ∧ Wrote [tb] w w' ∧ w'.heap[tb]? = some (.cells #[.int .i64 n] 70 (0, 0)) := by
  have h21 := @run_callFunc_extern Tryz.prog 95 _ (fun args => ReflectliteValue.unpack (args.getD 0 (.tuple #[]))) Tryz.func95 (by kernel_rfl) (by kernel_rfl) (by kernel_rfl) (by kernel_rfl)
  have h22 := @run_callFunc_extern Tryz.prog 96 _ (ReflectliteValue.methodAny (ReflectliteValue.valueError "reflectlite.Value.Type" 0) (fun t _ _ _ => ReflectliteType.toType t)) Tryz.func96 (by kernel_rfl) (by kernel_rfl) (by kernel_rfl) (by kernel_rfl)
  have h23 := @run_callFunc_extern Tryz.prog 97 _ (ReflectliteValue.method (ReflectliteValue.valueError "reflectlite.Value.IsNil" 0) ReflectliteValue.isNil) Tryz.func97 (by kernel_rfl) (by kernel_rfl) (by kernel_rfl) (by kernel_rfl)
  have h56 := @run_callFunc_extern Tryz.prog 158 _ (ReflectliteType.abiMethod fun t => do pure (.int .u8 (← Rtype.kind t))) Tryz.func158 (by kernel_rfl) (by kernel_rfl) (by kernel_rfl) (by kernel_rfl)
  have h68 := @run_callFunc_extern Tryz.prog 171 _ (ReflectliteType.method ReflectliteType.elem) Tryz.func171 (by kernel_rfl) (by kernel_rfl) (by kernel_rfl) (by kernel_rfl)
  have h69 := @run_callFunc_extern Tryz.prog 172 _ (ReflectliteType.relation "Implements" ReflectliteType.implements_) Tryz.func172 (by kernel_rfl) (by kernel_rfl) (by kernel_rfl) (by kernel_rfl)
  have f21 := valueOfP
  have f22 := typeP
  have mK := methodKind
  have mE := methodElem
  have mI := methodImplements
  have kP := kindP
  have kN := kindN
  have eP := elemP
  have iN := implementsN
  obtain ⟨W1, hW1⟩ : ∃ W1, W1 = w.alloc (.cells #[.pointer (some ⟨tb, 0, none⟩)] 116) := ⟨_, rfl⟩
  obtain ⟨W2, hW2⟩ : ∃ W2, W2 = W1.alloc (.cells #[.pointer (some ⟨2, 116, none⟩), .pointer (some ⟨w.heap.size, 0, none⟩), .int .u64 150] 150) := ⟨_, rfl⟩
  have hb1 : Below w.heap.size w W1 := by rw [hW1]; exact (Below.refl _ w).alloc (Nat.le_refl _) _
  have hb2 : Below w.heap.size w W2 := by rw [hW2]; exact hb1.alloc hb1.size _
  have hrow1 : W1.heap[w.heap.size]? = some (.cells #[.pointer (some ⟨tb, 0, none⟩)] 116 (0, 0)) := by rw [hW1]; exact heap_alloc_new w _
  have hrow : W2.heap[w.heap.size]? = some (.cells #[.pointer (some ⟨tb, 0, none⟩)] 116 (0, 0)) := by rw [hW2, Below.heap_alloc _ _ _ (lt_of_heap hrow1)]; exact hrow1
  have hbox : W2.cell? ⟨w.heap.size, 0, none⟩ = some (.pointer (some ⟨tb, 0, none⟩)) := by rw [cell_of_row _ _ _ _ _ _ hrow]; rfl
  have n23 := isNilP ⟨w.heap.size, 0, none⟩ ⟨tb, 0, none⟩ W2 hbox
  have hg2 : W2.cell? ⟨0, 0, none⟩ = some (.iface 193 (.agg #[.pointer (some ⟨2, 30, none⟩)])) := (hb2.cell (p := ⟨0, 0, none⟩) hg.lt).trans hg
  have HC := Lib.hid (as_hitN n st tb w.heap.size o0 W2 hbox ((hb2.block _ (lt_of_heap ht)).trans ht))
  obtain ⟨T, v, hE⟩ := errOf_form n st
  rw [hE] at HC ⊢
  have HB2 : Hid (Below w.heap.size w W2) := hb2
  clear hE hb1 hb2 hrow1 hrow hbox ht hg
  subst hW2 hW1
  go_enter Tryz.func60, Tryz.ntmps60
  go_wp2_with (go_at_call 98; refine HC.out.mono ?_; rintro e w' ⟨rfl, hw, hh⟩)
  go_ret
  exact ⟨rfl, ((Wrote.of_below (S := []) HB2.out).mono (T := [tb]) (by simp)).trans hw, hh⟩
end Go.Proofs.YtaifmfnmgnmgbaaGreatDoor

