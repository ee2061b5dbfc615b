/- errors.As: its contracts. -/
import Derived.Test.YtaifmfnmgnmgbaaGreatDoorAs
import Derived.Laws.IdiomCopy
import Derived.Test.YtaifmfnmgnmgbaaGreatDoorGen
namespace Go.Proofs.YtaifmfnmgnmgbaaGreatDoor
open Go.RowKit Go.My Go.Extern.Stop Go.Stop Go.Extern
theorem setW (tb bb : Nat) (x y z o0 o1 o2 : Value) (W : World) (h1 : ∀ v ∈ [x, y, z], v.oneCell' = true) (hb0 : W.cell? ⟨bb, 0, none⟩ = some x) (hb1 : W.cell? ⟨bb, 1, none⟩ = some y) (hb2 : W.cell? ⟨bb, 2, none⟩ = some z) (ht0 : W.cell? ⟨tb, 0, none⟩ = some o0) (ht1 : W.cell? ⟨tb, 1, none⟩ = some o1) (ht2 : W.cell? ⟨tb, 2, none⟩ = some o2) (hf : ∀ i, W.frozen? ⟨tb, i, none⟩ = false) :
    (ReflectliteValue.set #[.agg #[.pointer (some ⟨2, 163, none⟩), .pointer (some ⟨tb, 0, none⟩), .int .u64 409], .agg #[.pointer (some ⟨2, 163, none⟩), .pointer (some ⟨bb, 0, none⟩), .int .u64 153]]).run Tryz.prog W
      = .ok (.tuple #[]) (((W.setCell ⟨tb, 0, none⟩ x).setCell ⟨tb, 1, none⟩ y).setCell ⟨tb, 2, none⟩ z) := by
  have hl := run_loadCells_list (P := Tryz.prog) W ⟨bb, 0, none⟩ [x, y, z] (fun j v hj => by
    rw [Addr.add_lit, Nat.zero_add]
    match j, hj with
    | 0, hj => obtain rfl : x = v := by simpa using hj
               exact hb0
    | 1, hj => obtain rfl : y = v := by simpa using hj
               exact hb1
    | 2, hj => obtain rfl : z = v := by simpa using hj
               exact hb2
    | j + 3, hj => simp at hj)
  have hst := run_storeCells_cells (P := Tryz.prog) tb 0 [x, y, z] 0 W (fun j hj => by
    match j, hj with
    | 0, _ => simp [ht0]
    | 1, _ => simp [ht1]
    | 2, _ => simp [ht2]
    | j + 3, hj => simp only [List.length_cons, List.length_nil] at hj; omega) (fun j _ => hf _) h1
  simp only [List.length_cons, List.length_nil, Nat.zero_add, Nat.reduceAdd] at hl
  rw [rls]
  simp only [Sem.run_bind, partsWa, partsW, Result.andThen]
  simp [ReflectliteValue.flagAddr, loadVar, isAgg, underlying, Tryz.underlying163, hl, Result.andThen, directW, storeVar, Value.cells, hst, World.setCells]
/-- Cells of an error. -/
theorem errOf_one (n : Int) (st : List StepT) : (errOf n st).oneCell' = true := by cases st <;> rfl
theorem errOf_form (n : Int) (st : List StepT) : ∃ T v, errOf n st = .iface T v := by cases st <;> exact ⟨_, _, rfl⟩
theorem of_one3 (s : StepT) (n : Int) (st : List StepT) : ∀ v ∈ [Value.string s.1, .int .i64 s.2, errOf n st], v.oneCell' = true := by
  intro v hv
  simp only [List.mem_cons, List.not_mem_nil, or_false] at hv
  rcases hv with rfl | rfl | rfl
  · rfl
  · rfl
  · exact errOf_one n st
theorem set3_left {w : World} {tb : Nat} {T : TypeId} {o0 o1 o2 x y z : Value} (h : w.heap[tb]? = some (.cells #[o0, o1, o2] T (0, 0))) (p q : Obj) :
    Wrote [tb] w (((((w.setCell ⟨tb, 0, none⟩ x).setCell ⟨tb, 1, none⟩ y).setCell ⟨tb, 2, none⟩ z).alloc p).alloc q) ∧ (((((w.setCell ⟨tb, 0, none⟩ x).setCell ⟨tb, 1, none⟩ y).setCell ⟨tb, 2, none⟩ z).alloc p).alloc q).heap[tb]? = some (.cells #[x, y, z] T (0, 0)) := by
  have h1 := heap_setCell_same _ tb 0 _ _ x h
  have h2 := heap_setCell_same _ tb 1 _ _ y h1
  have h3 := heap_setCell_same _ tb 2 _ _ z h2
  refine ⟨(((((Wrote.refl [tb] w).setCell (.inl (List.mem_singleton.2 rfl)) _).setCell (.inl (List.mem_singleton.2 rfl)) _).setCell (.inl (List.mem_singleton.2 rfl)) _).alloc _).alloc _, ?_⟩
  have hl := lt_of_heap h3
  rw [Below.heap_alloc _ _ _ (by simp at hl ⊢; omega), Below.heap_alloc _ _ _ hl]
  exact h3
set_option maxRecDepth 100000 in
set_option maxHeartbeats 4000000 in
/-- errors.as at a bare number, the target a wrapped error: false. -/
theorem as_missN (n : Int) (tv : Value) (a b c : Value) (w : World) :
    Calls Tryz.prog 98 #[errOf n [], tv, .agg #[a, b, c], .iface 193 (.agg #[.pointer (some ⟨2, 163, none⟩)])] w fun e w' => e = .returned (.bool false) ∧ Below w.heap.size w w' := by
  have h21 := @run_callFunc_extern Tryz.prog 95 _ (fun args => ReflectliteValue.unpack (args.getD 0 (.tuple #[]))) Tryz.func95 (by kernel_rfl) (by kernel_rfl) (by kernel_rfl) (by kernel_rfl)
  have h26 := @run_callFunc_extern Tryz.prog 128 _ ReflectliteType.typeOf Tryz.func128 (by kernel_rfl) (by kernel_rfl) (by kernel_rfl) (by kernel_rfl)
  have h66 := @run_callFunc_extern Tryz.prog 169 _ (ReflectliteType.relation "AssignableTo" ReflectliteType.assignableTo) Tryz.func169 (by kernel_rfl) (by kernel_rfl) (by kernel_rfl) (by kernel_rfl)
  have h28 := @run_callFunc_extern Tryz.prog 129 _ (ReflectliteValue.method (ReflectliteValue.valueError "reflectlite.Value.Elem" 0) ReflectliteValue.elem) Tryz.func129 (by kernel_rfl) (by kernel_rfl) (by kernel_rfl) (by kernel_rfl)
  have h29 := @run_callFunc_extern Tryz.prog 130 _ ReflectliteValue.set Tryz.func130 (by kernel_rfl) (by kernel_rfl) (by kernel_rfl) (by kernel_rfl)
  have tO := typeOfN
  have mA := methodAssignableTo
  have aW := assignNW
  have nA := noAsN
  have nU := noUnwrapN
  have nS := noUnwrapsN
  have HB : Hid (∀ o, Below w.heap.size w (w.alloc o)) := fun o => (Below.refl _ w).alloc (Nat.le_refl _) o
  show Calls _ _ #[.iface 70 (.int .i64 n), _, _, _] _ _
  go_enter Tryz.func98, Tryz.ntmps98
  go_wp2_with fail
  refine wp_loop_rounds 1 ?_
  rw [rounds_succ]
  go_wp2_with fail
  go_ret
  exact ⟨rfl, HB.out _⟩
theorem set1_left {w : World} {tb : Nat} {T : TypeId} {o0 x : Value} (h : w.heap[tb]? = some (.cells #[o0] T (0, 0))) (p : Obj) :
    Wrote [tb] w ((w.alloc p).setCell ⟨tb, 0, none⟩ x) ∧ ((w.alloc p).setCell ⟨tb, 0, none⟩ x).heap[tb]? = some (.cells #[x] T (0, 0)) := by
  have hl := lt_of_heap h
  have h1 : (w.alloc p).heap[tb]? = some (.cells #[o0] T (0, 0)) := by rw [Below.heap_alloc _ _ _ hl]; exact h
  exact ⟨((Wrote.refl [tb] w).alloc _).setCell (.inl (List.mem_singleton.2 rfl)) _, heap_setCell_same _ tb 0 _ _ x h1⟩
set_option maxRecDepth 100000 in
theorem unwrap_uw (a b c : Value) (w : World) : Calls Tryz.prog 167 #[.agg #[a, b, c]] w fun e w' => e = .returned c ∧ Below w.heap.size w w' := by
  go_enter Tryz.func167, Tryz.ntmps167
  go_wp2
  go_ret
  exact ⟨rfl, (Below.refl _ w).alloc (Nat.le_refl _) _⟩
set_option maxRecDepth 100000 in
set_option maxHeartbeats 4000000 in
/-- errors.as at a number that came through steps, the target a number: it is set. -/
theorem as_hitN (n : Int) (st : List StepT) (tb ab : Nat) (o0 : Value) (w : World) (ha : w.cell? ⟨ab, 0, none⟩ = some (.pointer (some ⟨tb, 0, none⟩))) (ht : w.heap[tb]? = some (.cells #[o0] 70 (0, 0))) :
    Calls Tryz.prog 98 #[errOf n st, .iface 116 (.pointer (some ⟨tb, 0, none⟩)), .agg #[.pointer (some ⟨2, 116, none⟩), .pointer (some ⟨ab, 0, none⟩), .int .u64 150], .iface 193 (.agg #[.pointer (some ⟨2, 70, none⟩)])] w fun e w' => e = .returned (.bool true) ∧ Wrote [tb] w w' ∧ w'.heap[tb]? = some (.cells #[.int .i64 n] 70 (0, 0)) := by
  have h21 := @run_callFunc_extern Tryz.prog 95 _ (fun args => ReflectliteValue.unpack (args.getD 0 (.tuple #[]))) Tryz.func95 (by kernel_rfl) (by kernel_rfl) (by kernel_rfl) (by kernel_rfl)
  have h26 := @run_callFunc_extern Tryz.prog 128 _ ReflectliteType.typeOf Tryz.func128 (by kernel_rfl) (by kernel_rfl) (by kernel_rfl) (by kernel_rfl)
  have h66 := @run_callFunc_extern Tryz.prog 169 _ (ReflectliteType.relation "AssignableTo" ReflectliteType.assignableTo) Tryz.func169 (by kernel_rfl) (by kernel_rfl) (by kernel_rfl) (by kernel_rfl)
  have h28 := @run_callFunc_extern Tryz.prog 129 _ (ReflectliteValue.method (ReflectliteValue.valueError "reflectlite.Value.Elem" 0) ReflectliteValue.elem) Tryz.func129 (by kernel_rfl) (by kernel_rfl) (by kernel_rfl) (by kernel_rfl)
  have h29 := @run_callFunc_extern Tryz.prog 130 _ ReflectliteValue.set Tryz.func130 (by kernel_rfl) (by kernel_rfl) (by kernel_rfl) (by kernel_rfl)
  have tO := typeOfW
  have tN := typeOfN
  have mA := methodAssignableTo
  have aW := assignWN
  have aN := assignNN
  have nA := noAsW
  have nU := hasUnwrapW
  have mU := methodUnwrap
  have vN := valueOfN
  have HT := Lib.hid ht
  have hal : ab < w.heap.size := World.block_lt_of_cell? w ⟨ab, 0, none⟩ ha
  have HA := Lib.hid ha
  obtain ⟨W1, hW1⟩ : ∃ W1, W1 = w.alloc (.cells #[.pointer (some ⟨2, 116, none⟩), .pointer (some ⟨ab, 0, none⟩), .int .u64 150] 150) := ⟨_, rfl⟩
  have HB1 : Hid (Below w.heap.size w W1 ∧ W1.heap[w.heap.size]? = some (.cells #[.pointer (some ⟨2, 116, none⟩), .pointer (some ⟨ab, 0, none⟩), .int .u64 150] 150 (0, 0))) := by show _ ∧ _; rw [hW1]; exact ⟨(Below.refl _ w).alloc (Nat.le_refl _) _, heap_alloc_new w _⟩
  obtain ⟨vb, hvb⟩ : ∃ vb, vb = w.heap.size := ⟨_, rfl⟩
  have HVB := Lib.hid hvb
  have P0 : Hid (Below W1.heap.size W1 W1) := Below.refl _ _
  clear ha ht
  go_enter Tryz.func98, Tryz.ntmps98
  go_wp2_with fail
  rw [← hW1, ← hvb]
  clear hW1 hvb
  go_loopw [0] (fun x wr => ∃ st' : List StepT, x = errOf n st' ∧ Hid (Below W1.heap.size W1 wr)) (fun x _ => SizeOf.sizeOf x)
  case atStart => exact ⟨st, rfl, P0⟩
  case round =>
    clear P0
    obtain ⟨st', rfl, HR⟩ := hrel
    have hbw : Below w.heap.size w wr := HB1.out.1.trans (HR.out.mono HB1.out.1.size)
    have hrow : wr.heap[vb]? = some (.cells #[.pointer (some ⟨2, 116, none⟩), .pointer (some ⟨ab, 0, none⟩), .int .u64 150] 150 (0, 0)) := by
      have h := HB1.out.2
      rw [← HVB.out] at h
      exact (HR.out.block _ (lt_of_heap h)).trans h
    have v0 : wr.cell? ⟨vb, 0, none⟩ = some (.pointer (some ⟨2, 116, none⟩)) := by rw [cell_of_row _ _ _ _ _ _ hrow]; rfl
    have v1 : wr.cell? ⟨vb, 1, none⟩ = some (.pointer (some ⟨ab, 0, none⟩)) := by rw [cell_of_row _ _ _ _ _ _ hrow]; rfl
    have v2 : wr.cell? ⟨vb, 2, none⟩ = some (.int .u64 150) := by rw [cell_of_row _ _ _ _ _ _ hrow]; rfl
    have vl := lt_of_heap hrow
    cases st' with
    | cons s st1 =>
      have HUW : Hid (Calls Tryz.prog 167 #[.agg #[.string s.1, .int .i64 s.2, errOf n st1]] wr fun e w' => e = .returned (errOf n st1) ∧ Below wr.heap.size wr w') := unwrap_uw _ _ _ _
      have HSZ : Hid (SizeOf.sizeOf (errOf n st1) < SizeOf.sizeOf (errOf n (s :: st1))) := by show _ < _; rw [errOf]; simp; omega
      clear hrow hbw
      obtain ⟨T, v, hE⟩ := errOf_form n st1
      rw [show errOf n (s :: st1) = .iface 163 (.agg #[.string s.1, .int .i64 s.2, errOf n st1]) from rfl] at HSZ ⊢
      have HE := Lib.hid hE
      rw [hE] at HUW HSZ ⊢
      clear hE
      go_wp2_with (go_at_call 167; refine HUW.out.mono ?_; rintro e w2 ⟨rfl, hb2⟩)
      exact ⟨⟨st1, HE.out.symm, HR.out.trans (hb2.mono HR.out.size)⟩, HSZ.out⟩
    | nil =>
      have hb := hbw
      have hal2 : wr.cell? ⟨ab, 0, none⟩ = some (.pointer (some ⟨tb, 0, none⟩)) := (hbw.cell (p := ⟨ab, 0, none⟩) hal).trans HA.out
      have el := elemVP ⟨ab, 0, none⟩ ⟨tb, 0, none⟩ wr hal2
      have htb : wr.heap[tb]? = some (.cells #[o0] 70 (0, 0)) := (hbw.block _ (lt_of_heap HT.out)).trans HT.out
      have htl := lt_of_heap htb
      have ht0 : (wr.alloc (.cells #[.int .i64 n] 70)).cell? ⟨tb, 0, none⟩ = some o0 := by
        rw [((Below.refl wr.heap.size wr).alloc (Nat.le_refl _) _).cell (p := ⟨tb, 0, none⟩) htl, cell_of_row _ _ _ _ _ _ htb]; rfl
      have hft : (wr.alloc (.cells #[.int .i64 n] 70)).frozen? ⟨tb, 0, none⟩ = false := by
        rw [((Below.refl wr.heap.size wr).alloc (Nat.le_refl _) _).frozen (p := ⟨tb, 0, none⟩) htl]; simp [World.frozen?, htb]
      have hnew : (wr.alloc (.cells #[.int .i64 n] 70)).cell? ⟨wr.heap.size, 0, none⟩ = some (.int .i64 n) := by
        rw [cell_of_row _ _ _ _ _ _ (heap_alloc_new wr _)]; rfl
      have sN := setN ⟨tb, 0, none⟩ ⟨wr.heap.size, 0, none⟩ n o0 _ hnew ht0 hft
      have HEND : Hid (∀ p, Wrote [tb] w ((wr.alloc p).setCell ⟨tb, 0, none⟩ (.int .i64 n)) ∧ ((wr.alloc p).setCell ⟨tb, 0, none⟩ (.int .i64 n)).heap[tb]? = some (.cells #[.int .i64 n] 70 (0, 0))) := fun p => by
        have h := set1_left (x := .int .i64 n) htb p
        exact ⟨((Wrote.of_below (S := []) hbw).mono (T := [tb]) (by simp)).trans h.1, h.2⟩
      clear hbw hrow ht0 hft hnew htb hal2 hb htl
      show (Code.wp _ _ _ _ _)
      rw [show errOf n [] = .iface 70 (.int .i64 n) from rfl]
      go_wp2_with fail
      go_ret
      exact ⟨rfl, HEND.out _⟩
end Go.Proofs.YtaifmfnmgnmgbaaGreatDoor

