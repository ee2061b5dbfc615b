/- errors.As: its contracts, at the top. -/
import Derived.Test.YtfojgghnkjmjhaaDoorAs2
namespace Go.Proofs.YtfojgghnkjmjhaaDoor
open Go.RowKit Go.My Go.Extern.Stop Go.Stop Go.Extern
set_option maxRecDepth 100000 in
set_option maxHeartbeats 4000000 in
/-- errors.As at a wrapped error: the variable holds it. -/
theorem asW_hit (s : StepT) (n : Int) (st : List StepT) (tb : Nat) (o0 o1 o2 : Value) (w : World) (hg : TypeIs w) (ht : w.heap[tb]? = some (.cells #[o0, o1, o2] 65 (0, 0))) :
    Calls Tryd.prog 26 #[errOf n (s :: st), .iface 66 (.pointer (some ⟨tb, 0, none⟩))] w fun e w' => e = .returned (.bool true) ∧ Wrote [tb] w w' ∧ w'.heap[tb]? = some (.cells #[.string s.1, .int .i64 s.2, errOf n st] 65 (0, 0)) := by
  have h21 := @run_callFunc_extern Tryd.prog 32 _ (fun args => ReflectliteValue.unpack (args.getD 0 (.tuple #[]))) Tryd.func32 (by kernel_rfl) (by kernel_rfl) (by kernel_rfl) (by kernel_rfl)
  have h22 := @run_callFunc_extern Tryd.prog 33 _ (ReflectliteValue.methodAny (ReflectliteValue.valueError "reflectlite.Value.Type" 0) (fun t _ _ _ => ReflectliteType.toType t)) Tryd.func33 (by kernel_rfl) (by kernel_rfl) (by kernel_rfl) (by kernel_rfl)
  have h23 := @run_callFunc_extern Tryd.prog 34 _ (ReflectliteValue.method (ReflectliteValue.valueError "reflectlite.Value.IsNil" 0) ReflectliteValue.isNil) Tryd.func34 (by kernel_rfl) (by kernel_rfl) (by kernel_rfl) (by kernel_rfl)
  have h56 := @run_callFunc_extern Tryd.prog 73 _ (ReflectliteType.abiMethod fun t => do pure (.int .u8 (← Rtype.kind t))) Tryd.func73 (by kernel_rfl) (by kernel_rfl) (by kernel_rfl) (by kernel_rfl)
  have h68 := @run_callFunc_extern Tryd.prog 98 _ (ReflectliteType.method ReflectliteType.elem) Tryd.func98 (by kernel_rfl) (by kernel_rfl) (by kernel_rfl) (by kernel_rfl)
  have h69 := @run_callFunc_extern Tryd.prog 99 _ (ReflectliteType.relation "Implements" ReflectliteType.implements_) Tryd.func99 (by kernel_rfl) (by kernel_rfl) (by kernel_rfl) (by kernel_rfl)
  have f21 := valueOfQ
  have f22 := typeQ
  have mK := methodKind
  have mE := methodElem
  have mI := methodImplements
  have kP := kindQ
  have kN := kindW
  have eP := elemQ
  have iN := implementsW
  obtain ⟨W1, hW1⟩ : ∃ W1, W1 = w.alloc (.cells #[.pointer (some ⟨tb, 0, none⟩)] 66) := ⟨_, rfl⟩
  obtain ⟨W2, hW2⟩ : ∃ W2, W2 = W1.alloc (.cells #[.pointer (some ⟨4, 66, none⟩), .pointer (some ⟨w.heap.size, 0, none⟩), .int .u64 150] 76) := ⟨_, rfl⟩
  have hb1 : Below w.heap.size w W1 := by rw [hW1]; exact (Below.refl _ w).alloc (Nat.le_refl _) _
  have hb2 : Below w.heap.size w W2 := by rw [hW2]; exact hb1.alloc hb1.size _
  have hrow1 : W1.heap[w.heap.size]? = some (.cells #[.pointer (some ⟨tb, 0, none⟩)] 66 (0, 0)) := by rw [hW1]; exact heap_alloc_new w _
  have hrow : W2.heap[w.heap.size]? = some (.cells #[.pointer (some ⟨tb, 0, none⟩)] 66 (0, 0)) := by rw [hW2, Below.heap_alloc _ _ _ (lt_of_heap hrow1)]; exact hrow1
  have hbox : W2.cell? ⟨w.heap.size, 0, none⟩ = some (.pointer (some ⟨tb, 0, none⟩)) := by rw [cell_of_row _ _ _ _ _ _ hrow]; rfl
  have n23 := isNilQ ⟨w.heap.size, 0, none⟩ ⟨tb, 0, none⟩ W2 hbox
  have hg2 : W2.cell? ⟨0, 0, none⟩ = some (.iface 89 (.agg #[.pointer (some ⟨4, 35, none⟩)])) := (hb2.cell (p := ⟨0, 0, none⟩) hg.lt).trans hg
  have HC := Lib.hid (as_hitW s n st tb w.heap.size o0 o1 o2 W2 hbox ((hb2.block _ (lt_of_heap ht)).trans ht))
  obtain ⟨T, v, hE⟩ := errOf_form n (s :: st)
  rw [hE] at HC ⊢
  have HB2 : Hid (Below w.heap.size w W2) := hb2
  clear hE hb1 hb2 hrow1 hrow hbox ht hg
  subst hW2 hW1
  go_enter Tryd.func26, Tryd.ntmps26
  go_wp2_with (go_at_call 35; refine HC.out.mono ?_; rintro e w' ⟨rfl, hw, hh⟩)
  go_ret
  exact ⟨rfl, ((Wrote.of_below (S := []) HB2.out).mono (T := [tb]) (by simp)).trans hw, hh⟩
set_option maxRecDepth 100000 in
set_option maxHeartbeats 4000000 in
/-- errors.As at a bare number, for a wrapped error: none. -/
theorem asW_miss (n : Int) (tb : Nat) (w : World) (hg : TypeIs w) :
    Calls Tryd.prog 26 #[errOf n [], .iface 66 (.pointer (some ⟨tb, 0, none⟩))] w fun e w' => e = .returned (.bool false) ∧ Below w.heap.size w w' := by
  have h21 := @run_callFunc_extern Tryd.prog 32 _ (fun args => ReflectliteValue.unpack (args.getD 0 (.tuple #[]))) Tryd.func32 (by kernel_rfl) (by kernel_rfl) (by kernel_rfl) (by kernel_rfl)
  have h22 := @run_callFunc_extern Tryd.prog 33 _ (ReflectliteValue.methodAny (ReflectliteValue.valueError "reflectlite.Value.Type" 0) (fun t _ _ _ => ReflectliteType.toType t)) Tryd.func33 (by kernel_rfl) (by kernel_rfl) (by kernel_rfl) (by kernel_rfl)
  have h23 := @run_callFunc_extern Tryd.prog 34 _ (ReflectliteValue.method (ReflectliteValue.valueError "reflectlite.Value.IsNil" 0) ReflectliteValue.isNil) Tryd.func34 (by kernel_rfl) (by kernel_rfl) (by kernel_rfl) (by kernel_rfl)
  have h56 := @run_callFunc_extern Tryd.prog 73 _ (ReflectliteType.abiMethod fun t => do pure (.int .u8 (← Rtype.kind t))) Tryd.func73 (by kernel_rfl) (by kernel_rfl) (by kernel_rfl) (by kernel_rfl)
  have h68 := @run_callFunc_extern Tryd.prog 98 _ (ReflectliteType.method ReflectliteType.elem) Tryd.func98 (by kernel_rfl) (by kernel_rfl) (by kernel_rfl) (by kernel_rfl)
  have h69 := @run_callFunc_extern Tryd.prog 99 _ (ReflectliteType.relation "Implements" ReflectliteType.implements_) Tryd.func99 (by kernel_rfl) (by kernel_rfl) (by kernel_rfl) (by kernel_rfl)
  have f21 := valueOfQ
  have f22 := typeQ
  have mK := methodKind
  have mE := methodElem
  have mI := methodImplements
  have kP := kindQ
  have kN := kindW
  have eP := elemQ
  have iN := implementsW
  obtain ⟨W1, hW1⟩ : ∃ W1, W1 = w.alloc (.cells #[.pointer (some ⟨tb, 0, none⟩)] 66) := ⟨_, rfl⟩
  obtain ⟨W2, hW2⟩ : ∃ W2, W2 = W1.alloc (.cells #[.pointer (some ⟨4, 66, none⟩), .pointer (some ⟨w.heap.size, 0, none⟩), .int .u64 150] 76) := ⟨_, rfl⟩
  have hb1 : Below w.heap.size w W1 := by rw [hW1]; exact (Below.refl _ w).alloc (Nat.le_refl _) _
  have hb2 : Below w.heap.size w W2 := by rw [hW2]; exact hb1.alloc hb1.size _
  have hrow1 : W1.heap[w.heap.size]? = some (.cells #[.pointer (some ⟨tb, 0, none⟩)] 66 (0, 0)) := by rw [hW1]; exact heap_alloc_new w _
  have hrow : W2.heap[w.heap.size]? = some (.cells #[.pointer (some ⟨tb, 0, none⟩)] 66 (0, 0)) := by rw [hW2, Below.heap_alloc _ _ _ (lt_of_heap hrow1)]; exact hrow1
  have hbox : W2.cell? ⟨w.heap.size, 0, none⟩ = some (.pointer (some ⟨tb, 0, none⟩)) := by rw [cell_of_row _ _ _ _ _ _ hrow]; rfl
  have n23 := isNilQ ⟨w.heap.size, 0, none⟩ ⟨tb, 0, none⟩ W2 hbox
  have hg2 : W2.cell? ⟨0, 0, none⟩ = some (.iface 89 (.agg #[.pointer (some ⟨4, 35, none⟩)])) := (hb2.cell (p := ⟨0, 0, none⟩) hg.lt).trans hg
  have HC := Lib.hid (as_missN n (.iface 66 (.pointer (some ⟨tb, 0, none⟩))) (.pointer (some ⟨4, 66, none⟩)) (.pointer (some ⟨w.heap.size, 0, none⟩)) (.int .u64 150) W2)
  obtain ⟨T, v, hE⟩ := errOf_form n []
  rw [hE] at HC ⊢
  have HB2 : Hid (Below w.heap.size w W2) := hb2
  clear hE hb1 hb2 hrow1 hrow hbox hg
  subst hW2 hW1
  go_enter Tryd.func26, Tryd.ntmps26
  go_wp2_with (go_at_call 35; refine HC.out.mono ?_; rintro e w' ⟨rfl, hb⟩)
  go_ret
  exact ⟨rfl, HB2.out.trans (hb.mono HB2.out.size)⟩
set_option maxRecDepth 100000 in
set_option maxHeartbeats 4000000 in
/-- errors.As at a number that came through steps: the variable holds it. -/
theorem asN_hit (n : Int) (st : List StepT) (tb : Nat) (o0 : Value) (w : World) (hg : TypeIs w) (ht : w.heap[tb]? = some (.cells #[o0] 37 (0, 0))) :
    Calls Tryd.prog 26 #[errOf n st, .iface 63 (.pointer (some ⟨tb, 0, none⟩))] w fun e w' => e = .returned (.bool true) ∧ Wrote [tb] w w' ∧ w'.heap[tb]? = some (.cells #[.int .i64 n] 37 (0, 0)) := by
  have h21 := @run_callFunc_extern Tryd.prog 32 _ (fun args => ReflectliteValue.unpack (args.getD 0 (.tuple #[]))) Tryd.func32 (by kernel_rfl) (by kernel_rfl) (by kernel_rfl) (by kernel_rfl)
  have h22 := @run_callFunc_extern Tryd.prog 33 _ (ReflectliteValue.methodAny (ReflectliteValue.valueError "reflectlite.Value.Type" 0) (fun t _ _ _ => ReflectliteType.toType t)) Tryd.func33 (by kernel_rfl) (by kernel_rfl) (by kernel_rfl) (by kernel_rfl)
  have h23 := @run_callFunc_extern Tryd.prog 34 _ (ReflectliteValue.method (ReflectliteValue.valueError "reflectlite.Value.IsNil" 0) ReflectliteValue.isNil) Tryd.func34 (by kernel_rfl) (by kernel_rfl) (by kernel_rfl) (by kernel_rfl)
  have h56 := @run_callFunc_extern Tryd.prog 73 _ (ReflectliteType.abiMethod fun t => do pure (.int .u8 (← Rtype.kind t))) Tryd.func73 (by kernel_rfl) (by kernel_rfl) (by kernel_rfl) (by kernel_rfl)
  have h68 := @run_callFunc_extern Tryd.prog 98 _ (ReflectliteType.method ReflectliteType.elem) Tryd.func98 (by kernel_rfl) (by kernel_rfl) (by kernel_rfl) (by kernel_rfl)
  have h69 := @run_callFunc_extern Tryd.prog 99 _ (ReflectliteType.relation "Implements" ReflectliteType.implements_) Tryd.func99 (by kernel_rfl) (by kernel_rfl) (by kernel_rfl) (by kernel_rfl)
  have f21 := valueOfP
  have f22 := typeP
  have mK := methodKind
  have mE := methodElem
  have mI := methodImplements
  have kP := kindP
  have kN := kindN
  have eP := elemP
  have iN := implementsN
  obtain ⟨W1, hW1⟩ : ∃ W1, W1 = w.alloc (.cells #[.pointer (some ⟨tb, 0, none⟩)] 63) := ⟨_, rfl⟩
  obtain ⟨W2, hW2⟩ : ∃ W2, W2 = W1.alloc (.cells #[.pointer (some ⟨4, 63, none⟩), .pointer (some ⟨w.heap.size, 0, none⟩), .int .u64 150] 76) := ⟨_, rfl⟩
  have hb1 : Below w.heap.size w W1 := by rw [hW1]; exact (Below.refl _ w).alloc (Nat.le_refl _) _
  have hb2 : Below w.heap.size w W2 := by rw [hW2]; exact hb1.alloc hb1.size _
  have hrow1 : W1.heap[w.heap.size]? = some (.cells #[.pointer (some ⟨tb, 0, none⟩)] 63 (0, 0)) := by rw [hW1]; exact heap_alloc_new w _
  have hrow : W2.heap[w.heap.size]? = some (.cells #[.pointer (some ⟨tb, 0, none⟩)] 63 (0, 0)) := by rw [hW2, Below.heap_alloc _ _ _ (lt_of_heap hrow1)]; exact hrow1
  have hbox : W2.cell? ⟨w.heap.size, 0, none⟩ = some (.pointer (some ⟨tb, 0, none⟩)) := by rw [cell_of_row _ _ _ _ _ _ hrow]; rfl
  have n23 := isNilP ⟨w.heap.size, 0, none⟩ ⟨tb, 0, none⟩ W2 hbox
  have hg2 : W2.cell? ⟨0, 0, none⟩ = some (.iface 89 (.agg #[.pointer (some ⟨4, 35, none⟩)])) := (hb2.cell (p := ⟨0, 0, none⟩) hg.lt).trans hg
  have HC := Lib.hid (as_hitN n st tb w.heap.size o0 W2 hbox ((hb2.block _ (lt_of_heap ht)).trans ht))
  obtain ⟨T, v, hE⟩ := errOf_form n st
  rw [hE] at HC ⊢
  have HB2 : Hid (Below w.heap.size w W2) := hb2
  clear hE hb1 hb2 hrow1 hrow hbox ht hg
  subst hW2 hW1
  go_enter Tryd.func26, Tryd.ntmps26
  go_wp2_with (go_at_call 35; refine HC.out.mono ?_; rintro e w' ⟨rfl, hw, hh⟩)
  go_ret
  exact ⟨rfl, ((Wrote.of_below (S := []) HB2.out).mono (T := [tb]) (by simp)).trans hw, hh⟩
end Go.Proofs.YtfojgghnkjmjhaaDoor
