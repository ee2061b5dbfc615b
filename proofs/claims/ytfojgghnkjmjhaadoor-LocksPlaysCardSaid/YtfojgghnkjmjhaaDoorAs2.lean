/- errors.As: its contracts. -/
import Derived.Test.YtfojgghnkjmjhaaDoorAs
import Derived.Laws.IdiomCopy
import Derived.Test.YtfojgghnkjmjhaaDoorGen
namespace Go.Proofs.YtfojgghnkjmjhaaDoor
open Go.RowKit Go.My Go.Extern.Stop Go.Stop Go.Extern
theorem setW (tb bb : Nat) (x y z o0 o1 o2 : Value) (W : World) (h1 : ∀ v ∈ [x, y, z], v.oneCell' = true) (hb0 : W.cell? ⟨bb, 0, none⟩ = some x) (hb1 : W.cell? ⟨bb, 1, none⟩ = some y) (hb2 : W.cell? ⟨bb, 2, none⟩ = some z) (ht0 : W.cell? ⟨tb, 0, none⟩ = some o0) (ht1 : W.cell? ⟨tb, 1, none⟩ = some o1) (ht2 : W.cell? ⟨tb, 2, none⟩ = some o2) (hf : ∀ i, W.frozen? ⟨tb, i, none⟩ = false) :
    (ReflectliteValue.set #[.agg #[.pointer (some ⟨4, 65, none⟩), .pointer (some ⟨tb, 0, none⟩), .int .u64 409], .agg #[.pointer (some ⟨4, 65, none⟩), .pointer (some ⟨bb, 0, none⟩), .int .u64 153]]).run Tryd.prog W
      = .ok (.tuple #[]) (((W.setCell ⟨tb, 0, none⟩ x).setCell ⟨tb, 1, none⟩ y).setCell ⟨tb, 2, none⟩ z) := by
  have hl := run_loadCells_list (P := Tryd.prog) W ⟨bb, 0, none⟩ [x, y, z] (fun j v hj => by
    rw [Addr.add_lit, Nat.zero_add]
    match j, hj with
    | 0, hj => obtain rfl : x = v := by simpa using hj
               exact hb0
    | 1, hj => obtain rfl : y = v := by simpa using hj
               exact hb1
    | 2, hj => obtain rfl : z = v := by simpa using hj
               exact hb2
    | j + 3, hj => simp at hj)
  have hst := run_storeCells_cells (P := Tryd.prog) tb 0 [x, y, z] 0 W (fun j hj => by
    match j, hj with
    | 0, _ => simp [ht0]
    | 1, _ => simp [ht1]
    | 2, _ => simp [ht2]
    | j + 3, hj => simp only [List.length_cons, List.length_nil] at hj; omega) (fun j _ => hf _) h1
  simp only [List.length_cons, List.length_nil, Nat.zero_add, Nat.reduceAdd] at hl
  rw [rls]
  simp only [Sem.run_bind, partsWa, partsW, Result.andThen]
  simp [ReflectliteValue.flagAddr, loadVar, isAgg, underlying, Tryd.underlying65, hl, Result.andThen, directW, storeVar, Value.cells, hst, World.setCells]
/-- Cells of an error. -/
theorem errOf_one (n : Int) (st : List StepT) : (errOf n st).oneCell' = true := by cases st <;> rfl
theorem errOf_form (n : Int) (st : List StepT) : ∃ T v, errOf n st = .iface T v := by cases st <;> exact ⟨_, _, rfl⟩
theorem of_one3 (s : StepT) (n : Int) (st : List StepT) : ∀ v ∈ [Value.string s.1, .int .i64 s.2, errOf n st], v.oneCell' = true := by
  intro v hv
  simp only [List.mem_cons, List.not_mem_nil, or_false] at hv
  rcases hv with rfl | rfl | rfl
  · rfl
  · rfl
  · exact errOf_one n st
theorem set3_left {w : World} {tb : Nat} {T : TypeId} {o0 o1 o2 x y z : Value} (h : w.heap[tb]? = some (.cells #[o0, o1, o2] T (0, 0))) (p q : Obj) :
    Wrote [tb] w (((((w.setCell ⟨tb, 0, none⟩ x).setCell ⟨tb, 1, none⟩ y).setCell ⟨tb, 2, none⟩ z).alloc p).alloc q) ∧ (((((w.setCell ⟨tb, 0, none⟩ x).setCell ⟨tb, 1, none⟩ y).setCell ⟨tb, 2, none⟩ z).alloc p).alloc q).heap[tb]? = some (.cells #[x, y, z] T (0, 0)) := by
  have h1 := heap_setCell_same _ tb 0 _ _ x h
  have h2 := heap_setCell_same _ tb 1 _ _ y h1
  have h3 := heap_setCell_same _ tb 2 _ _ z h2
  refine ⟨(((((Wrote.refl [tb] w).setCell (.inl (List.mem_singleton.2 rfl)) _).setCell (.inl (List.mem_singleton.2 rfl)) _).setCell (.inl (List.mem_singleton.2 rfl)) _).alloc _).alloc _, ?_⟩
  have hl := lt_of_heap h3
  rw [Below.heap_alloc _ _ _ (by simp at hl ⊢; omega), Below.heap_alloc _ _ _ hl]
  exact h3
set_option maxRecDepth 100000 in
set_option maxHeartbeats 4000000 in
/-- errors.as at a wrapped error, the target one, too: it is set. -/
theorem as_hitW (s : StepT) (n : Int) (st : List StepT) (tb ab : Nat) (o0 o1 o2 : Value) (w : World) (ha : w.cell? ⟨ab, 0, none⟩ = some (.pointer (some ⟨tb, 0, none⟩))) (ht : w.heap[tb]? = some (.cells #[o0, o1, o2] 65 (0, 0))) :
    Calls Tryd.prog 35 #[errOf n (s :: st), .iface 66 (.pointer (some ⟨tb, 0, none⟩)), .agg #[.pointer (some ⟨4, 66, none⟩), .pointer (some ⟨ab, 0, none⟩), .int .u64 150], .iface 89 (.agg #[.pointer (some ⟨4, 65, none⟩)])] w fun e w' => e = .returned (.bool true) ∧ Wrote [tb] w w' ∧ w'.heap[tb]? = some (.cells #[.string s.1, .int .i64 s.2, errOf n st] 65 (0, 0)) := by
  have HT := Lib.hid ht
  have htl := lt_of_heap ht
  have ht0 : w.cell? ⟨tb, 0, none⟩ = some o0 := by rw [cell_of_row _ _ _ _ _ _ ht]; rfl
  have ht1 : w.cell? ⟨tb, 1, none⟩ = some o1 := by rw [cell_of_row _ _ _ _ _ _ ht]; rfl
  have ht2 : w.cell? ⟨tb, 2, none⟩ = some o2 := by rw [cell_of_row _ _ _ _ _ _ ht]; rfl
  have hf : ∀ i, w.frozen? ⟨tb, i, none⟩ = false := fun i => by simp [World.frozen?, ht]
  have h21 := @run_callFunc_extern Tryd.prog 32 _ (fun args => ReflectliteValue.unpack (args.getD 0 (.tuple #[]))) Tryd.func32 (by kernel_rfl) (by kernel_rfl) (by kernel_rfl) (by kernel_rfl)
  have h26 := @run_callFunc_extern Tryd.prog 38 _ ReflectliteType.typeOf Tryd.func38 (by kernel_rfl) (by kernel_rfl) (by kernel_rfl) (by kernel_rfl)
  have h66 := @run_callFunc_extern Tryd.prog 96 _ (ReflectliteType.relation "AssignableTo" ReflectliteType.assignableTo) Tryd.func96 (by kernel_rfl) (by kernel_rfl) (by kernel_rfl) (by kernel_rfl)
  have h28 := @run_callFunc_extern Tryd.prog 39 _ (ReflectliteValue.method (ReflectliteValue.valueError "reflectlite.Value.Elem" 0) ReflectliteValue.elem) Tryd.func39 (by kernel_rfl) (by kernel_rfl) (by kernel_rfl) (by kernel_rfl)
  have h29 := @run_callFunc_extern Tryd.prog 40 _ ReflectliteValue.set Tryd.func40 (by kernel_rfl) (by kernel_rfl) (by kernel_rfl) (by kernel_rfl)
  have tO := typeOfW
  have mA := methodAssignableTo
  have aW := assignWW
  have vW := valueOfW
  obtain ⟨W1, hW1⟩ : ∃ W1, W1 = w.alloc (.cells #[.pointer (some ⟨4, 66, none⟩), .pointer (some ⟨ab, 0, none⟩), .int .u64 150] 76) := ⟨_, rfl⟩
  obtain ⟨W2, hW2⟩ : ∃ W2, W2 = W1.alloc (.cells #[.string s.1, .int .i64 s.2, errOf n st] 65) := ⟨_, rfl⟩
  have hal : ab < w.heap.size := World.block_lt_of_cell? w ⟨ab, 0, none⟩ ha
  have hb1 : Below w.heap.size w W1 := by rw [hW1]; exact (Below.refl _ w).alloc (Nat.le_refl _) _
  have hb2 : Below w.heap.size w W2 := by rw [hW2]; exact hb1.alloc hb1.size _
  have el := elemVQ ⟨ab, 0, none⟩ ⟨tb, 0, none⟩ W1 ((hb1.cell (p := ⟨ab, 0, none⟩) hal).trans ha)
  have hrow : W2.heap[W1.heap.size]? = some (.cells #[.string s.1, .int .i64 s.2, errOf n st] 65 (0, 0)) := by rw [hW2]; exact heap_alloc_new W1 _
  have hcell : ∀ i, W2.cell? ⟨tb, i, none⟩ = w.cell? ⟨tb, i, none⟩ := fun i => hb2.cell (p := ⟨tb, i, none⟩) htl
  have st1 := setW tb W1.heap.size (.string s.1) (.int .i64 s.2) (errOf n st) o0 o1 o2 W2 (of_one3 s n st) (by simp [World.cell?, hrow]) (by simp [World.cell?, hrow]) (by simp [World.cell?, hrow]) ((hcell 0).trans ht0) ((hcell 1).trans ht1) ((hcell 2).trans ht2) (fun i => (hb2.frozen (p := ⟨tb, i, none⟩) htl).trans (hf i))
  have hs1 : W1.heap.size = w.heap.size + 1 := by rw [hW1]; simp
  rw [hs1] at st1
  clear hcell hrow hb1 hb2 ha ht ht0 ht1 ht2 hf hs1
  subst hW2 hW1
  show Calls _ _ #[.iface 65 (.agg #[.string s.1, .int .i64 s.2, errOf n st]), _, _, _] _ _
  go_enter Tryd.func35, Tryd.ntmps35
  go_wp2_with fail
  refine wp_loop_rounds 1 ?_
  rw [rounds_succ]
  go_wp2_with fail
  go_ret
  exact ⟨rfl, set3_left HT.out _ _⟩
set_option maxRecDepth 100000 in
set_option maxHeartbeats 4000000 in
/-- errors.as at a bare number, the target a wrapped error: false. -/
theorem as_missN (n : Int) (tv : Value) (a b c : Value) (w : World) :
    Calls Tryd.prog 35 #[errOf n [], tv, .agg #[a, b, c], .iface 89 (.agg #[.pointer (some ⟨4, 65, none⟩)])] w fun e w' => e = .returned (.bool false) ∧ Below w.heap.size w w' := by
  have h21 := @run_callFunc_extern Tryd.prog 32 _ (fun args => ReflectliteValue.unpack (args.getD 0 (.tuple #[]))) Tryd.func32 (by kernel_rfl) (by kernel_rfl) (by kernel_rfl) (by kernel_rfl)
  have h26 := @run_callFunc_extern Tryd.prog 38 _ ReflectliteType.typeOf Tryd.func38 (by kernel_rfl) (by kernel_rfl) (by kernel_rfl) (by kernel_rfl)
  have h66 := @run_callFunc_extern Tryd.prog 96 _ (ReflectliteType.relation "AssignableTo" ReflectliteType.assignableTo) Tryd.func96 (by kernel_rfl) (by kernel_rfl) (by kernel_rfl) (by kernel_rfl)
  have h28 := @run_callFunc_extern Tryd.prog 39 _ (ReflectliteValue.method (ReflectliteValue.valueError "reflectlite.Value.Elem" 0) ReflectliteValue.elem) Tryd.func39 (by kernel_rfl) (by kernel_rfl) (by kernel_rfl) (by kernel_rfl)
  have h29 := @run_callFunc_extern Tryd.prog 40 _ ReflectliteValue.set Tryd.func40 (by kernel_rfl) (by kernel_rfl) (by kernel_rfl) (by kernel_rfl)
  have tO := typeOfN
  have mA := methodAssignableTo
  have aW := assignNW
  have nA := noAsN
  have nU := noUnwrapN
  have nS := noUnwrapsN
  have HB : Hid (∀ o, Below w.heap.size w (w.alloc o)) := fun o => (Below.refl _ w).alloc (Nat.le_refl _) o
  show Calls _ _ #[.iface 37 (.int .i64 n), _, _, _] _ _
  go_enter Tryd.func35, Tryd.ntmps35
  go_wp2_with fail
  refine wp_loop_rounds 1 ?_
  rw [rounds_succ]
  go_wp2_with fail
  go_ret
  exact ⟨rfl, HB.out _⟩
theorem set1_left {w : World} {tb : Nat} {T : TypeId} {o0 x : Value} (h : w.heap[tb]? = some (.cells #[o0] T (0, 0))) (p : Obj) :
    Wrote [tb] w ((w.alloc p).setCell ⟨tb, 0, none⟩ x) ∧ ((w.alloc p).setCell ⟨tb, 0, none⟩ x).heap[tb]? = some (.cells #[x] T (0, 0)) := by
  have hl := lt_of_heap h
  have h1 : (w.alloc p).heap[tb]? = some (.cells #[o0] T (0, 0)) := by rw [Below.heap_alloc _ _ _ hl]; exact h
  exact ⟨((Wrote.refl [tb] w).alloc _).setCell (.inl (List.mem_singleton.2 rfl)) _, heap_setCell_same _ tb 0 _ _ x h1⟩
set_option maxRecDepth 100000 in
theorem unwrap_uw (a b c : Value) (w : World) : Calls Tryd.prog 91 #[.agg #[a, b, c]] w fun e w' => e = .returned c ∧ Below w.heap.size w w' := by
  go_enter Tryd.func91, Tryd.ntmps91
  go_wp2
  go_ret
  exact ⟨rfl, (Below.refl _ w).alloc (Nat.le_refl _) _⟩
set_option maxRecDepth 100000 in
set_option maxHeartbeats 4000000 in
/-- errors.as at a number that came through steps, the target a number: it is set. -/
theorem as_hitN (n : Int) (st : List StepT) (tb ab : Nat) (o0 : Value) (w : World) (ha : w.cell? ⟨ab, 0, none⟩ = some (.pointer (some ⟨tb, 0, none⟩))) (ht : w.heap[tb]? = some (.cells #[o0] 37 (0, 0))) :
    Calls Tryd.prog 35 #[errOf n st, .iface 63 (.pointer (some ⟨tb, 0, none⟩)), .agg #[.pointer (some ⟨4, 63, none⟩), .pointer (some ⟨ab, 0, none⟩), .int .u64 150], .iface 89 (.agg #[.pointer (some ⟨4, 37, none⟩)])] w fun e w' => e = .returned (.bool true) ∧ Wrote [tb] w w' ∧ w'.heap[tb]? = some (.cells #[.int .i64 n] 37 (0, 0)) := by
  have h21 := @run_callFunc_extern Tryd.prog 32 _ (fun args => ReflectliteValue.unpack (args.getD 0 (.tuple #[]))) Tryd.func32 (by kernel_rfl) (by kernel_rfl) (by kernel_rfl) (by kernel_rfl)
  have h26 := @run_callFunc_extern Tryd.prog 38 _ ReflectliteType.typeOf Tryd.func38 (by kernel_rfl) (by kernel_rfl) (by kernel_rfl) (by kernel_rfl)
  have h66 := @run_callFunc_extern Tryd.prog 96 _ (ReflectliteType.relation "AssignableTo" ReflectliteType.assignableTo) Tryd.func96 (by kernel_rfl) (by kernel_rfl) (by kernel_rfl) (by kernel_rfl)
  have h28 := @run_callFunc_extern Tryd.prog 39 _ (ReflectliteValue.method (ReflectliteValue.valueError "reflectlite.Value.Elem" 0) ReflectliteValue.elem) Tryd.func39 (by kernel_rfl) (by kernel_rfl) (by kernel_rfl) (by kernel_rfl)
  have h29 := @run_callFunc_extern Tryd.prog 40 _ ReflectliteValue.set Tryd.func40 (by kernel_rfl) (by kernel_rfl) (by kernel_rfl) (by kernel_rfl)
  have tO := typeOfW
  have tN := typeOfN
  have mA := methodAssignableTo
  have aW := assignWN
  have aN := assignNN
  have nA := noAsW
  have nU := hasUnwrapW
  have mU := methodUnwrap
  have vN := valueOfN
  have HT := Lib.hid ht
  have hal : ab < w.heap.size := World.block_lt_of_cell? w ⟨ab, 0, none⟩ ha
  have HA := Lib.hid ha
  obtain ⟨W1, hW1⟩ : ∃ W1, W1 = w.alloc (.cells #[.pointer (some ⟨4, 63, none⟩), .pointer (some ⟨ab, 0, none⟩), .int .u64 150] 76) := ⟨_, rfl⟩
  have HB1 : Hid (Below w.heap.size w W1 ∧ W1.heap[w.heap.size]? = some (.cells #[.pointer (some ⟨4, 63, none⟩), .pointer (some ⟨ab, 0, none⟩), .int .u64 150] 76 (0, 0))) := by show _ ∧ _; rw [hW1]; exact ⟨(Below.refl _ w).alloc (Nat.le_refl _) _, heap_alloc_new w _⟩
  obtain ⟨vb, hvb⟩ : ∃ vb, vb = w.heap.size := ⟨_, rfl⟩
  have HVB := Lib.hid hvb
  have P0 : Hid (Below W1.heap.size W1 W1) := Below.refl _ _
  clear ha ht
  go_enter Tryd.func35, Tryd.ntmps35
  go_wp2_with fail
  rw [← hW1, ← hvb]
  clear hW1 hvb
  go_loopw [0] (fun x wr => ∃ st' : List StepT, x = errOf n st' ∧ Hid (Below W1.heap.size W1 wr)) (fun x _ => SizeOf.sizeOf x)
  case atStart => exact ⟨st, rfl, P0⟩
  case round =>
    clear P0
    obtain ⟨st', rfl, HR⟩ := hrel
    have hbw : Below w.heap.size w wr := HB1.out.1.trans (HR.out.mono HB1.out.1.size)
    have hrow : wr.heap[vb]? = some (.cells #[.pointer (some ⟨4, 63, none⟩), .pointer (some ⟨ab, 0, none⟩), .int .u64 150] 76 (0, 0)) := by
      have h := HB1.out.2
      rw [← HVB.out] at h
      exact (HR.out.block _ (lt_of_heap h)).trans h
    have v0 : wr.cell? ⟨vb, 0, none⟩ = some (.pointer (some ⟨4, 63, none⟩)) := by rw [cell_of_row _ _ _ _ _ _ hrow]; rfl
    have v1 : wr.cell? ⟨vb, 1, none⟩ = some (.pointer (some ⟨ab, 0, none⟩)) := by rw [cell_of_row _ _ _ _ _ _ hrow]; rfl
    have v2 : wr.cell? ⟨vb, 2, none⟩ = some (.int .u64 150) := by rw [cell_of_row _ _ _ _ _ _ hrow]; rfl
    have vl := lt_of_heap hrow
    cases st' with
    | cons s st1 =>
      have HUW : Hid (Calls Tryd.prog 91 #[.agg #[.string s.1, .int .i64 s.2, errOf n st1]] wr fun e w' => e = .returned (errOf n st1) ∧ Below wr.heap.size wr w') := unwrap_uw _ _ _ _
      have HSZ : Hid (SizeOf.sizeOf (errOf n st1) < SizeOf.sizeOf (errOf n (s :: st1))) := by show _ < _; rw [errOf]; simp; omega
      clear hrow hbw
      obtain ⟨T, v, hE⟩ := errOf_form n st1
      rw [show errOf n (s :: st1) = .iface 65 (.agg #[.string s.1, .int .i64 s.2, errOf n st1]) from rfl] at HSZ ⊢
      have HE := Lib.hid hE
      rw [hE] at HUW HSZ ⊢
      clear hE
      go_wp2_with (go_at_call 91; refine HUW.out.mono ?_; rintro e w2 ⟨rfl, hb2⟩)
      exact ⟨⟨st1, HE.out.symm, HR.out.trans (hb2.mono HR.out.size)⟩, HSZ.out⟩
    | nil =>
      have hb := hbw
      have hal2 : wr.cell? ⟨ab, 0, none⟩ = some (.pointer (some ⟨tb, 0, none⟩)) := (hbw.cell (p := ⟨ab, 0, none⟩) hal).trans HA.out
      have el := elemVP ⟨ab, 0, none⟩ ⟨tb, 0, none⟩ wr hal2
      have htb : wr.heap[tb]? = some (.cells #[o0] 37 (0, 0)) := (hbw.block _ (lt_of_heap HT.out)).trans HT.out
      have htl := lt_of_heap htb
      have ht0 : (wr.alloc (.cells #[.int .i64 n] 37)).cell? ⟨tb, 0, none⟩ = some o0 := by
        rw [((Below.refl wr.heap.size wr).alloc (Nat.le_refl _) _).cell (p := ⟨tb, 0, none⟩) htl, cell_of_row _ _ _ _ _ _ htb]; rfl
      have hft : (wr.alloc (.cells #[.int .i64 n] 37)).frozen? ⟨tb, 0, none⟩ = false := by
        rw [((Below.refl wr.heap.size wr).alloc (Nat.le_refl _) _).frozen (p := ⟨tb, 0, none⟩) htl]; simp [World.frozen?, htb]
      have hnew : (wr.alloc (.cells #[.int .i64 n] 37)).cell? ⟨wr.heap.size, 0, none⟩ = some (.int .i64 n) := by
        rw [cell_of_row _ _ _ _ _ _ (heap_alloc_new wr _)]; rfl
      have sN := setN ⟨tb, 0, none⟩ ⟨wr.heap.size, 0, none⟩ n o0 _ hnew ht0 hft
      have HEND : Hid (∀ p, Wrote [tb] w ((wr.alloc p).setCell ⟨tb, 0, none⟩ (.int .i64 n)) ∧ ((wr.alloc p).setCell ⟨tb, 0, none⟩ (.int .i64 n)).heap[tb]? = some (.cells #[.int .i64 n] 37 (0, 0))) := fun p => by
        have h := set1_left (x := .int .i64 n) htb p
        exact ⟨((Wrote.of_below (S := []) hbw).mono (T := [tb]) (by simp)).trans h.1, h.2⟩
      clear hbw hrow ht0 hft hnew htb hal2 hb htl
      show (Code.wp _ _ _ _ _)
      rw [show errOf n [] = .iface 37 (.int .i64 n) from rfl]
      go_wp2_with fail
      go_ret
      exact ⟨rfl, HEND.out _⟩
end Go.Proofs.YtfojgghnkjmjhaaDoor
