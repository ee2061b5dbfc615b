/- errors.As at a number and at a wrapped error, by its own text. and more. -/
import Derived.Test.YtaifmfnmgnmgbaaGreatDoorChecked
import Derived.WalkKit
import Derived.LaidEql
import Derived.Stop.Asserts
import Derived.RowKitTokens
import Derived.Lib.Hide
import Derived.Below
import Derived.Laws.IdiomCopy
import Derived.Test.YtaifmfnmgnmgbaaGreatDoorBase
import Derived.Laws.AppendOwn
import Derived.Test.YtaifmfnmgnmgbaaGreatDoorRows
import Derived.ChangeSame
import Derived.ChangeVars
import Derived.JoinedOf
import Derived.RowKit
import Derived.LaidLaws
import Derived.LaidHandle
import Derived.Stop.Joined
/- errors.As at a number and at a wrapped error, by its own text. -/
namespace Go.Proofs.YtaifmfnmgnmgbaaGreatDoor
open Go.RowKit Go.Extern.Stop Go.Stop Go.Extern
/-- a step: where, and at what -/
abbrev StepT := ByteArray × Int
/-- an error of a number that came through steps, the outermost first -/
def errOf (n : Int) : List StepT → Value
  | [] => .iface 70 (.int .i64 n)
  | s :: st => .iface 163 (.agg #[.string s.1, .int .i64 s.2, errOf n st])
/-- the variable that errors.As reads -/
def TypeIs (w : World) : Prop := w.cell? ⟨0, 0, none⟩ = some (.iface 193 (.agg #[.pointer (some ⟨2, 30, none⟩)]))
theorem TypeIs.lt {w : World} (h : TypeIs w) : 0 < w.heap.size := World.block_lt_of_cell? w ⟨0, 0, none⟩ h
theorem TypeIs.below {N : Nat} {w w' : World} (h : TypeIs w) (hN : 0 < N) (hb : Below N w w') : TypeIs w' := (hb.cell (p := ⟨0, 0, none⟩) hN).trans h
theorem as_nil (v : Value) (w : World) : Calls Tryz.prog 60 #[.nilIface, v] w fun e w' => e = .returned (.bool false) ∧ w = w' := by
  go_enter Tryz.func60, Tryz.ntmps60
  go_wp2
  go_ret
  exact ⟨rfl, rfl⟩
/-! ### the model's entries, at this program's types -/
theorem valueOfP (t : Addr) (w : World) : (ReflectliteValue.unpack (.iface 116 (.pointer (some t)))).run Tryz.prog w
    = .ok (.agg #[.pointer (some ⟨2, 116, none⟩), .pointer (some ⟨w.heap.size, 0, none⟩), .int .u64 150]) (w.alloc (.cells #[.pointer (some t)] 116)) := by kernel_rfl
theorem valueOfN (n : Int) (w : World) : (ReflectliteValue.unpack (.iface 70 (.int .i64 n))).run Tryz.prog w
    = .ok (.agg #[.pointer (some ⟨2, 70, none⟩), .pointer (some ⟨w.heap.size, 0, none⟩), .int .u64 130]) (w.alloc (.cells #[.int .i64 n] 70)) := by kernel_rfl
theorem valueOfW (a b c : Value) (w : World) : (ReflectliteValue.unpack (.iface 163 (.agg #[a, b, c]))).run Tryz.prog w
    = .ok (.agg #[.pointer (some ⟨2, 163, none⟩), .pointer (some ⟨w.heap.size, 0, none⟩), .int .u64 153]) (w.alloc (.cells #[a, b, c] 163)) := by kernel_rfl
theorem typeP (a : Addr) (w : World) : (ReflectliteValue.methodAny (ReflectliteValue.valueError "reflectlite.Value.Type" 0) (fun t _ _ _ => ReflectliteType.toType t) #[.agg #[.pointer (some ⟨2, 116, none⟩), .pointer (some a), .int .u64 150]]).run Tryz.prog w
    = .ok (.iface 193 (.agg #[.pointer (some ⟨2, 116, none⟩)])) w := by kernel_rfl
theorem methodKind (h : Value) (w : World) : (Go.method 348 193 (.agg #[h]) "Kind").run Tryz.prog w = .ok (158, h) w := by kernel_rfl
theorem methodElem (h : Value) (w : World) : (Go.method 348 193 (.agg #[h]) "Elem").run Tryz.prog w = .ok (171, .agg #[h]) w := by kernel_rfl
theorem methodImplements (h : Value) (w : World) : (Go.method 348 193 (.agg #[h]) "Implements").run Tryz.prog w = .ok (172, .agg #[h]) w := by kernel_rfl
theorem methodAssignableTo (h : Value) (w : World) : (Go.method 348 193 (.agg #[h]) "AssignableTo").run Tryz.prog w = .ok (169, .agg #[h]) w := by kernel_rfl
theorem methodUnwrap (a b c : Value) (w : World) : (Go.method 348 163 (.agg #[a, b, c]) "Unwrap").run Tryz.prog w = .ok (167, .agg #[a, b, c]) w := by kernel_rfl
theorem kindP (w : World) : ((ReflectliteType.abiMethod fun t => (fun a : Nat => Value.int IntKind.u8 (a : Int)) <$> Rtype.kind t) #[.pointer (some ⟨2, 116, none⟩)]).run Tryz.prog w = .ok (.int .u8 22) w := by kernel_rfl
theorem kindN (w : World) : ((ReflectliteType.abiMethod fun t => (fun a : Nat => Value.int IntKind.u8 (a : Int)) <$> Rtype.kind t) #[.pointer (some ⟨2, 70, none⟩)]).run Tryz.prog w = .ok (.int .u8 2) w := by kernel_rfl
theorem kindW (w : World) : ((ReflectliteType.abiMethod fun t => (fun a : Nat => Value.int IntKind.u8 (a : Int)) <$> Rtype.kind t) #[.pointer (some ⟨2, 163, none⟩)]).run Tryz.prog w = .ok (.int .u8 25) w := by kernel_rfl
theorem rlm (z : Sem Value) (f : TypeId → Addr → Nat → Nat → Sem Value) (v : Value) :
    ReflectliteValue.method z f #[v] = (do match ← ReflectliteValue.parts v with | none => z | some (t, a, fl) => f t a fl (fl % 32)) := rfl
theorem partsP (a : Addr) (w : World) : (ReflectliteValue.parts (.agg #[.pointer (some ⟨2, 116, none⟩), .pointer (some a), .int .u64 150])).run Tryz.prog w = .ok (some (116, a, 150)) w := by kernel_rfl
theorem isNilP (a p : Addr) (W : World) (ha : W.cell? a = some (.pointer (some p))) :
    (ReflectliteValue.method (ReflectliteValue.valueError "reflectlite.Value.IsNil" 0) ReflectliteValue.isNil #[.agg #[.pointer (some ⟨2, 116, none⟩), .pointer (some a), .int .u64 150]]).run Tryz.prog W = .ok (.bool false) W := by
  rw [rlm]
  simp only [Sem.run_bind, partsP, Result.andThen]
  simp [ReflectliteValue.isNil, loadVar, isAgg, underlying, Tryz.underlying116, ha, Result.andThen]
theorem elemP (w : World) : (ReflectliteType.method ReflectliteType.elem #[.agg #[.pointer (some ⟨2, 116, none⟩)]]).run Tryz.prog w = .ok (.iface 193 (.agg #[.pointer (some ⟨2, 70, none⟩)])) w := by kernel_rfl
theorem implementsN (w : World) : (ReflectliteType.relation "Implements" ReflectliteType.implements_ #[.agg #[.pointer (some ⟨2, 70, none⟩)], .iface 193 (.agg #[.pointer (some ⟨2, 30, none⟩)])]).run Tryz.prog w = .ok (.bool true) w := by kernel_rfl
theorem implementsW (w : World) : (ReflectliteType.relation "Implements" ReflectliteType.implements_ #[.agg #[.pointer (some ⟨2, 163, none⟩)], .iface 193 (.agg #[.pointer (some ⟨2, 30, none⟩)])]).run Tryz.prog w = .ok (.bool true) w := by kernel_rfl
theorem typeOfN (v : Value) (w : World) : (ReflectliteType.typeOf #[.iface 70 v]).run Tryz.prog w = .ok (.iface 193 (.agg #[.pointer (some ⟨2, 70, none⟩)])) w := by kernel_rfl
theorem typeOfW (v : Value) (w : World) : (ReflectliteType.typeOf #[.iface 163 v]).run Tryz.prog w = .ok (.iface 193 (.agg #[.pointer (some ⟨2, 163, none⟩)])) w := by kernel_rfl
theorem assignNN (w : World) : (ReflectliteType.relation "AssignableTo" ReflectliteType.assignableTo #[.agg #[.pointer (some ⟨2, 70, none⟩)], .iface 193 (.agg #[.pointer (some ⟨2, 70, none⟩)])]).run Tryz.prog w = .ok (.bool true) w := by kernel_rfl
theorem assignWN (w : World) : (ReflectliteType.relation "AssignableTo" ReflectliteType.assignableTo #[.agg #[.pointer (some ⟨2, 163, none⟩)], .iface 193 (.agg #[.pointer (some ⟨2, 70, none⟩)])]).run Tryz.prog w = .ok (.bool false) w := by kernel_rfl
theorem assignWW (w : World) : (ReflectliteType.relation "AssignableTo" ReflectliteType.assignableTo #[.agg #[.pointer (some ⟨2, 163, none⟩)], .iface 193 (.agg #[.pointer (some ⟨2, 163, none⟩)])]).run Tryz.prog w = .ok (.bool true) w := by kernel_rfl
theorem assignNW (w : World) : (ReflectliteType.relation "AssignableTo" ReflectliteType.assignableTo #[.agg #[.pointer (some ⟨2, 70, none⟩)], .iface 193 (.agg #[.pointer (some ⟨2, 163, none⟩)])]).run Tryz.prog w = .ok (.bool false) w := by kernel_rfl
theorem noAsN (v : Value) (w : World) : (Instr.typeAssert (.iface 70 v) 30 198 true).run Tryz.prog w = .ok (.tuple #[.nilIface, .bool false]) w := run_typeAssert_lacksB Tryz.underlying198 (by kernel_rfl) (by kernel_rfl) v 30 w
theorem noAsW (v : Value) (w : World) : (Instr.typeAssert (.iface 163 v) 30 198 true).run Tryz.prog w = .ok (.tuple #[.nilIface, .bool false]) w := run_typeAssert_lacksB Tryz.underlying198 (by kernel_rfl) (by kernel_rfl) v 30 w
theorem noUnwrapN (v : Value) (w : World) : (Instr.typeAssert (.iface 70 v) 30 201 true).run Tryz.prog w = .ok (.tuple #[.nilIface, .bool false]) w := run_typeAssert_lacksB Tryz.underlying201 (by kernel_rfl) (by kernel_rfl) v 30 w
theorem noUnwrapsN (v : Value) (w : World) : (Instr.typeAssert (.iface 70 v) 30 202 true).run Tryz.prog w = .ok (.tuple #[.nilIface, .bool false]) w := run_typeAssert_lacksB Tryz.underlying202 (by kernel_rfl) (by kernel_rfl) v 30 w
theorem hasUnwrapW (v : Value) (w : World) : (Instr.typeAssert (.iface 163 v) 30 201 true).run Tryz.prog w = .ok (.tuple #[.iface 163 v, .bool true]) w := run_typeAssert_hasB Tryz.underlying201 (by kernel_rfl) v 30 w
theorem elemOfP (w : World) : (Rtype.elem? 116).run Tryz.prog w = .ok (some 70) w := by kernel_rfl
theorem mkN (p : Addr) (w : World) : (ReflectliteValue.mk 70 p ReflectliteValue.flagAddr).run Tryz.prog w = .ok (.agg #[.pointer (some ⟨2, 70, none⟩), .pointer (some p), .int .u64 386]) w := by kernel_rfl
theorem mkW (p : Addr) (w : World) : (ReflectliteValue.mk 163 p ReflectliteValue.flagAddr).run Tryz.prog w = .ok (.agg #[.pointer (some ⟨2, 163, none⟩), .pointer (some p), .int .u64 409]) w := by kernel_rfl
theorem elemVP (a p : Addr) (W : World) (ha : W.cell? a = some (.pointer (some p))) :
    (ReflectliteValue.method (ReflectliteValue.valueError "reflectlite.Value.Elem" 0) ReflectliteValue.elem #[.agg #[.pointer (some ⟨2, 116, none⟩), .pointer (some a), .int .u64 150]]).run Tryz.prog W
      = .ok (.agg #[.pointer (some ⟨2, 70, none⟩), .pointer (some p), .int .u64 386]) W := by
  rw [rlm]
  simp only [Sem.run_bind, partsP, Result.andThen]
  simp [ReflectliteValue.elem, loadVar, isAgg, underlying, Tryz.underlying116, ha, Result.andThen, elemOfP, mkN]
theorem rls (v x : Value) : ReflectliteValue.set #[v, x] = (do
    let (some (dst, a, fl), some (src, b, _)) := (← ReflectliteValue.parts v, ← ReflectliteValue.parts x)
      | unsupported (.noEntry "extern/(internal/reflectlite.Value).Set.zeroValue")
    if fl / ReflectliteValue.flagAddr % 2 == 0 then unsupported (.noEntry "extern/(internal/reflectlite.Value).Set.unaddressable")
    let val ← loadVar src b
    if ← Rtype.directlyAssignable dst src then storeVar dst a val
    else if ← Rtype.implements dst src then
      if (← Rtype.kind src) == 20 then
        match val with
        | .nilIface => unsupported (.noEntry "extern/reflectlite: a nil value of one interface type handed on as a value of another")
        | _ => storeVar dst a val
      else storeVar dst a (.iface src val)
    else panicString ("reflectlite.Set: value of type " ++ (← Rtype.spelt src) ++ " is not assignable to type " ++ (← Rtype.spelt dst))
    pure (.tuple #[])) := rfl
theorem partsNa (a : Addr) (w : World) : (ReflectliteValue.parts (.agg #[.pointer (some ⟨2, 70, none⟩), .pointer (some a), .int .u64 386])).run Tryz.prog w = .ok (some (70, a, 386)) w := by kernel_rfl
theorem partsN (a : Addr) (w : World) : (ReflectliteValue.parts (.agg #[.pointer (some ⟨2, 70, none⟩), .pointer (some a), .int .u64 130])).run Tryz.prog w = .ok (some (70, a, 130)) w := by kernel_rfl
theorem partsWa (a : Addr) (w : World) : (ReflectliteValue.parts (.agg #[.pointer (some ⟨2, 163, none⟩), .pointer (some a), .int .u64 409])).run Tryz.prog w = .ok (some (163, a, 409)) w := by kernel_rfl
theorem partsW (a : Addr) (w : World) : (ReflectliteValue.parts (.agg #[.pointer (some ⟨2, 163, none⟩), .pointer (some a), .int .u64 153])).run Tryz.prog w = .ok (some (163, a, 153)) w := by kernel_rfl
theorem directN (w : World) : (Rtype.directlyAssignable 70 70).run Tryz.prog w = .ok true w := by kernel_rfl
theorem directW (w : World) : (Rtype.directlyAssignable 163 163).run Tryz.prog w = .ok true w := by kernel_rfl
theorem sizeN (w : World) : (sizeOf 70).run Tryz.prog w = .ok 1 w := by kernel_rfl
theorem sizeW (w : World) : (sizeOf 163).run Tryz.prog w = .ok 3 w := by kernel_rfl
theorem setN (ta b : Addr) (n : Int) (old : Value) (W : World) (hb : W.cell? b = some (.int .i64 n)) (ht : W.cell? ta = some old) (hf : W.frozen? ta = false) :
    (ReflectliteValue.set #[.agg #[.pointer (some ⟨2, 70, none⟩), .pointer (some ta), .int .u64 386], .agg #[.pointer (some ⟨2, 70, none⟩), .pointer (some b), .int .u64 130]]).run Tryz.prog W
      = .ok (.tuple #[]) (W.setCell ta (.int .i64 n)) := by
  rw [rls]
  simp only [Sem.run_bind, partsNa, partsN, Result.andThen]
  simp [ReflectliteValue.flagAddr, loadVar, isAgg, underlying, Tryz.underlying70, hb, Result.andThen, directN, storeVar, Value.cells, storeCells, Addr.add]
  rw [run_store Tryz.prog W ta _ _ (by rfl)]
  simp [ht, hf]
end Go.Proofs.YtaifmfnmgnmgbaaGreatDoor
/- errors.As: its contracts. -/
namespace Go.Proofs.YtaifmfnmgnmgbaaGreatDoor
open Go.RowKit Go.My Go.Extern.Stop Go.Stop Go.Extern
theorem setW (tb bb : Nat) (x y z o0 o1 o2 : Value) (W : World) (h1 : ∀ v ∈ [x, y, z], v.oneCell' = true) (hb0 : W.cell? ⟨bb, 0, none⟩ = some x) (hb1 : W.cell? ⟨bb, 1, none⟩ = some y) (hb2 : W.cell? ⟨bb, 2, none⟩ = some z) (ht0 : W.cell? ⟨tb, 0, none⟩ = some o0) (ht1 : W.cell? ⟨tb, 1, none⟩ = some o1) (ht2 : W.cell? ⟨tb, 2, none⟩ = some o2) (hf : ∀ i, W.frozen? ⟨tb, i, none⟩ = false) :
    (ReflectliteValue.set #[.agg #[.pointer (some ⟨2, 163, none⟩), .pointer (some ⟨tb, 0, none⟩), .int .u64 409], .agg #[.pointer (some ⟨2, 163, none⟩), .pointer (some ⟨bb, 0, none⟩), .int .u64 153]]).run Tryz.prog W
      = .ok (.tuple #[]) (((W.setCell ⟨tb, 0, none⟩ x).setCell ⟨tb, 1, none⟩ y).setCell ⟨tb, 2, none⟩ z) := by
  have hl := run_loadCells_list (P := Tryz.prog) W ⟨bb, 0, none⟩ [x, y, z] (fun j v hj => by
    rw [Addr.add_lit, Nat.zero_add]
    match j, hj with
    | 0, hj => obtain rfl : x = v := by simpa using hj
               exact hb0
    | 1, hj => obtain rfl : y = v := by simpa using hj
               exact hb1
    | 2, hj => obtain rfl : z = v := by simpa using hj
               exact hb2
    | j + 3, hj => simp at hj)
  have hst := run_storeCells_cells (P := Tryz.prog) tb 0 [x, y, z] 0 W (fun j hj => by
    match j, hj with
    | 0, _ => simp [ht0]
    | 1, _ => simp [ht1]
    | 2, _ => simp [ht2]
    | j + 3, hj => simp only [List.length_cons, List.length_nil] at hj; omega) (fun j _ => hf _) h1
  simp only [List.length_cons, List.length_nil, Nat.zero_add, Nat.reduceAdd] at hl
  rw [rls]
  simp only [Sem.run_bind, partsWa, partsW, Result.andThen]
  simp [ReflectliteValue.flagAddr, loadVar, isAgg, underlying, Tryz.underlying163, hl, Result.andThen, directW, storeVar, Value.cells, hst, World.setCells]
/-- Cells of an error. -/
theorem errOf_one (n : Int) (st : List StepT) : (errOf n st).oneCell' = true := by cases st <;> rfl
theorem errOf_form (n : Int) (st : List StepT) : ∃ T v, errOf n st = .iface T v := by cases st <;> exact ⟨_, _, rfl⟩
theorem of_one3 (s : StepT) (n : Int) (st : List StepT) : ∀ v ∈ [Value.string s.1, .int .i64 s.2, errOf n st], v.oneCell' = true := by
  intro v hv
  simp only [List.mem_cons, List.not_mem_nil, or_false] at hv
  rcases hv with rfl | rfl | rfl
  · rfl
  · rfl
  · exact errOf_one n st
theorem set3_left {w : World} {tb : Nat} {T : TypeId} {o0 o1 o2 x y z : Value} (h : w.heap[tb]? = some (.cells #[o0, o1, o2] T (0, 0))) (p q : Obj) :
    Wrote [tb] w (((((w.setCell ⟨tb, 0, none⟩ x).setCell ⟨tb, 1, none⟩ y).setCell ⟨tb, 2, none⟩ z).alloc p).alloc q) ∧ (((((w.setCell ⟨tb, 0, none⟩ x).setCell ⟨tb, 1, none⟩ y).setCell ⟨tb, 2, none⟩ z).alloc p).alloc q).heap[tb]? = some (.cells #[x, y, z] T (0, 0)) := by
  have h1 := heap_setCell_same _ tb 0 _ _ x h
  have h2 := heap_setCell_same _ tb 1 _ _ y h1
  have h3 := heap_setCell_same _ tb 2 _ _ z h2
  refine ⟨(((((Wrote.refl [tb] w).setCell (.inl (List.mem_singleton.2 rfl)) _).setCell (.inl (List.mem_singleton.2 rfl)) _).setCell (.inl (List.mem_singleton.2 rfl)) _).alloc _).alloc _, ?_⟩
  have hl := lt_of_heap h3
  rw [Below.heap_alloc _ _ _ (by simp at hl ⊢; omega), Below.heap_alloc _ _ _ hl]
  exact h3
set_option maxRecDepth 100000 in
set_option maxHeartbeats 4000000 in
/-- errors.as at a bare number, the target a wrapped error: false. -/
theorem as_missN (n : Int) (tv : Value) (a b c : Value) (w : World) :
    Calls Tryz.prog 98 #[errOf n [], tv, .agg #[a, b, c], .iface 193 (.agg #[.pointer (some ⟨2, 163, none⟩)])] w fun e w' => e = .returned (.bool false) ∧ Below w.heap.size w w' := by
  have h21 := @run_callFunc_extern Tryz.prog 95 _ (fun args => ReflectliteValue.unpack (args.getD 0 (.tuple #[]))) Tryz.func95 (by kernel_rfl) (by kernel_rfl) (by kernel_rfl) (by kernel_rfl)
  have h26 := @run_callFunc_extern Tryz.prog 128 _ ReflectliteType.typeOf Tryz.func128 (by kernel_rfl) (by kernel_rfl) (by kernel_rfl) (by kernel_rfl)
  have h66 := @run_callFunc_extern Tryz.prog 169 _ (ReflectliteType.relation "AssignableTo" ReflectliteType.assignableTo) Tryz.func169 (by kernel_rfl) (by kernel_rfl) (by kernel_rfl) (by kernel_rfl)
  have h28 := @run_callFunc_extern Tryz.prog 129 _ (ReflectliteValue.method (ReflectliteValue.valueError "reflectlite.Value.Elem" 0) ReflectliteValue.elem) Tryz.func129 (by kernel_rfl) (by kernel_rfl) (by kernel_rfl) (by kernel_rfl)
  have h29 := @run_callFunc_extern Tryz.prog 130 _ ReflectliteValue.set Tryz.func130 (by kernel_rfl) (by kernel_rfl) (by kernel_rfl) (by kernel_rfl)
  have tO := typeOfN
  have mA := methodAssignableTo
  have aW := assignNW
  have nA := noAsN
  have nU := noUnwrapN
  have nS := noUnwrapsN
  have HB : Hid (∀ o, Below w.heap.size w (w.alloc o)) := fun o => (Below.refl _ w).alloc (Nat.le_refl _) o
  show Calls _ _ #[.iface 70 (.int .i64 n), _, _, _] _ _
  go_enter Tryz.func98, Tryz.ntmps98
  go_wp2_with fail
  refine wp_loop_rounds 1 ?_
  rw [rounds_succ]
  go_wp2_with fail
  go_ret
  exact ⟨rfl, HB.out _⟩
theorem set1_left {w : World} {tb : Nat} {T : TypeId} {o0 x : Value} (h : w.heap[tb]? = some (.cells #[o0] T (0, 0))) (p : Obj) :
    Wrote [tb] w ((w.alloc p).setCell ⟨tb, 0, none⟩ x) ∧ ((w.alloc p).setCell ⟨tb, 0, none⟩ x).heap[tb]? = some (.cells #[x] T (0, 0)) := by
  have hl := lt_of_heap h
  have h1 : (w.alloc p).heap[tb]? = some (.cells #[o0] T (0, 0)) := by rw [Below.heap_alloc _ _ _ hl]; exact h
  exact ⟨((Wrote.refl [tb] w).alloc _).setCell (.inl (List.mem_singleton.2 rfl)) _, heap_setCell_same _ tb 0 _ _ x h1⟩
set_option maxRecDepth 100000 in
theorem unwrap_uw (a b c : Value) (w : World) : Calls Tryz.prog 167 #[.agg #[a, b, c]] w fun e w' => e = .returned c ∧ Below w.heap.size w w' := by
  go_enter Tryz.func167, Tryz.ntmps167
  go_wp2
  go_ret
  exact ⟨rfl, (Below.refl _ w).alloc (Nat.le_refl _) _⟩
set_option maxRecDepth 100000 in
set_option maxHeartbeats 4000000 in
/-- errors.as at a number that came through steps, the target a number: it is set. -/
theorem as_hitN (n : Int) (st : List StepT) (tb ab : Nat) (o0 : Value) (w : World) (ha : w.cell? ⟨ab, 0, none⟩ = some (.pointer (some ⟨tb, 0, none⟩))) (ht : w.heap[tb]? = some (.cells #[o0] 70 (0, 0))) :
    Calls Tryz.prog 98 #[errOf n st, .iface 116 (.pointer (some ⟨tb, 0, none⟩)), .agg #[.pointer (some ⟨2, 116, none⟩), .pointer (some ⟨ab, 0, none⟩), .int .u64 150], .iface 193 (.agg #[.pointer (some ⟨2, 70, none⟩)])] w fun e w' => e = .returned (.bool true) ∧ Wrote [tb] w w' ∧ w'.heap[tb]? = some (.cells #[.int .i64 n] 70 (0, 0)) := by
  have h21 := @run_callFunc_extern Tryz.prog 95 _ (fun args => ReflectliteValue.unpack (args.getD 0 (.tuple #[]))) Tryz.func95 (by kernel_rfl) (by kernel_rfl) (by kernel_rfl) (by kernel_rfl)
  have h26 := @run_callFunc_extern Tryz.prog 128 _ ReflectliteType.typeOf Tryz.func128 (by kernel_rfl) (by kernel_rfl) (by kernel_rfl) (by kernel_rfl)
  have h66 := @run_callFunc_extern Tryz.prog 169 _ (ReflectliteType.relation "AssignableTo" ReflectliteType.assignableTo) Tryz.func169 (by kernel_rfl) (by kernel_rfl) (by kernel_rfl) (by kernel_rfl)
  have h28 := @run_callFunc_extern Tryz.prog 129 _ (ReflectliteValue.method (ReflectliteValue.valueError "reflectlite.Value.Elem" 0) ReflectliteValue.elem) Tryz.func129 (by kernel_rfl) (by kernel_rfl) (by kernel_rfl) (by kernel_rfl)
  have h29 := @run_callFunc_extern Tryz.prog 130 _ ReflectliteValue.set Tryz.func130 (by kernel_rfl) (by kernel_rfl) (by kernel_rfl) (by kernel_rfl)
  have tO := typeOfW
  have tN := typeOfN
  have mA := methodAssignableTo
  have aW := assignWN
  have aN := assignNN
  have nA := noAsW
  have nU := hasUnwrapW
  have mU := methodUnwrap
  have vN := valueOfN
  have HT := Lib.hid ht
  have hal : ab < w.heap.size := World.block_lt_of_cell? w ⟨ab, 0, none⟩ ha
  have HA := Lib.hid ha
  obtain ⟨W1, hW1⟩ : ∃ W1, W1 = w.alloc (.cells #[.pointer (some ⟨2, 116, none⟩), .pointer (some ⟨ab, 0, none⟩), .int .u64 150] 150) := ⟨_, rfl⟩
  have HB1 : Hid (Below w.heap.size w W1 ∧ W1.heap[w.heap.size]? = some (.cells #[.pointer (some ⟨2, 116, none⟩), .pointer (some ⟨ab, 0, none⟩), .int .u64 150] 150 (0, 0))) := by show _ ∧ _; rw [hW1]; exact ⟨(Below.refl _ w).alloc (Nat.le_refl _) _, heap_alloc_new w _⟩
  obtain ⟨vb, hvb⟩ : ∃ vb, vb = w.heap.size := ⟨_, rfl⟩
  have HVB := Lib.hid hvb
  have P0 : Hid (Below W1.heap.size W1 W1) := Below.refl _ _
  clear ha ht
  go_enter Tryz.func98, Tryz.ntmps98
  go_wp2_with fail
  rw [← hW1, ← hvb]
  clear hW1 hvb
  go_loopw [0] (fun x wr => ∃ st' : List StepT, x = errOf n st' ∧ Hid (Below W1.heap.size W1 wr)) (fun x _ => SizeOf.sizeOf x)
  case atStart => exact ⟨st, rfl, P0⟩
  case round =>
    clear P0
    obtain ⟨st', rfl, HR⟩ := hrel
    have hbw : Below w.heap.size w wr := HB1.out.1.trans (HR.out.mono HB1.out.1.size)
    have hrow : wr.heap[vb]? = some (.cells #[.pointer (some ⟨2, 116, none⟩), .pointer (some ⟨ab, 0, none⟩), .int .u64 150] 150 (0, 0)) := by
      have h := HB1.out.2
      rw [← HVB.out] at h
      exact (HR.out.block _ (lt_of_heap h)).trans h
    have v0 : wr.cell? ⟨vb, 0, none⟩ = some (.pointer (some ⟨2, 116, none⟩)) := by rw [cell_of_row _ _ _ _ _ _ hrow]; rfl
    have v1 : wr.cell? ⟨vb, 1, none⟩ = some (.pointer (some ⟨ab, 0, none⟩)) := by rw [cell_of_row _ _ _ _ _ _ hrow]; rfl
    have v2 : wr.cell? ⟨vb, 2, none⟩ = some (.int .u64 150) := by rw [cell_of_row _ _ _ _ _ _ hrow]; rfl
    have vl := lt_of_heap hrow
    cases st' with
    | cons s st1 =>
      have HUW : Hid (Calls Tryz.prog 167 #[.agg #[.string s.1, .int .i64 s.2, errOf n st1]] wr fun e w' => e = .returned (errOf n st1) ∧ Below wr.heap.size wr w') := unwrap_uw _ _ _ _
      have HSZ : Hid (SizeOf.sizeOf (errOf n st1) < SizeOf.sizeOf (errOf n (s :: st1))) := by show _ < _; rw [errOf]; simp; omega
      clear hrow hbw
      obtain ⟨T, v, hE⟩ := errOf_form n st1
      rw [show errOf n (s :: st1) = .iface 163 (.agg #[.string s.1, .int .i64 s.2, errOf n st1]) from rfl] at HSZ ⊢
      have HE := Lib.hid hE
      rw [hE] at HUW HSZ ⊢
      clear hE
      go_wp2_with (go_at_call 167; refine HUW.out.mono ?_; rintro e w2 ⟨rfl, hb2⟩)
      exact ⟨⟨st1, HE.out.symm, HR.out.trans (hb2.mono HR.out.size)⟩, HSZ.out⟩
    | nil =>
      have hb := hbw
      have hal2 : wr.cell? ⟨ab, 0, none⟩ = some (.pointer (some ⟨tb, 0, none⟩)) := (hbw.cell (p := ⟨ab, 0, none⟩) hal).trans HA.out
      have el := elemVP ⟨ab, 0, none⟩ ⟨tb, 0, none⟩ wr hal2
      have htb : wr.heap[tb]? = some (.cells #[o0] 70 (0, 0)) := (hbw.block _ (lt_of_heap HT.out)).trans HT.out
      have htl := lt_of_heap htb
      have ht0 : (wr.alloc (.cells #[.int .i64 n] 70)).cell? ⟨tb, 0, none⟩ = some o0 := by
        rw [((Below.refl wr.heap.size wr).alloc (Nat.le_refl _) _).cell (p := ⟨tb, 0, none⟩) htl, cell_of_row _ _ _ _ _ _ htb]; rfl
      have hft : (wr.alloc (.cells #[.int .i64 n] 70)).frozen? ⟨tb, 0, none⟩ = false := by
        rw [((Below.refl wr.heap.size wr).alloc (Nat.le_refl _) _).frozen (p := ⟨tb, 0, none⟩) htl]; simp [World.frozen?, htb]
      have hnew : (wr.alloc (.cells #[.int .i64 n] 70)).cell? ⟨wr.heap.size, 0, none⟩ = some (.int .i64 n) := by
        rw [cell_of_row _ _ _ _ _ _ (heap_alloc_new wr _)]; rfl
      have sN := setN ⟨tb, 0, none⟩ ⟨wr.heap.size, 0, none⟩ n o0 _ hnew ht0 hft
      have HEND : Hid (∀ p, Wrote [tb] w ((wr.alloc p).setCell ⟨tb, 0, none⟩ (.int .i64 n)) ∧ ((wr.alloc p).setCell ⟨tb, 0, none⟩ (.int .i64 n)).heap[tb]? = some (.cells #[.int .i64 n] 70 (0, 0))) := fun p => by
        have h := set1_left (x := .int .i64 n) htb p
        exact ⟨((Wrote.of_below (S := []) hbw).mono (T := [tb]) (by simp)).trans h.1, h.2⟩
      clear hbw hrow ht0 hft hnew htb hal2 hb htl
      show (Code.wp _ _ _ _ _)
      rw [show errOf n [] = .iface 70 (.int .i64 n) from rfl]
      go_wp2_with fail
      go_ret
      exact ⟨rfl, HEND.out _⟩
end Go.Proofs.YtaifmfnmgnmgbaaGreatDoor
/- errors.As: its contracts, at the top. -/
namespace Go.Proofs.YtaifmfnmgnmgbaaGreatDoor
open Go.RowKit Go.My Go.Extern.Stop Go.Stop Go.Extern
set_option maxRecDepth 100000 in
set_option maxHeartbeats 4000000 in
/-- errors.As at a number that came through steps: the variable holds it. -/
theorem asN_hit (n : Int) (st : List StepT) (tb : Nat) (o0 : Value) (w : World) (hg : TypeIs w) (ht : w.heap[tb]? = some (.cells #[o0] 70 (0, 0))) :
    Calls Tryz.prog 60 #[errOf n st, .iface 116 (.pointer (some ⟨tb, 0, none⟩))] w fun e w' => e = .returned (.bool true) ∧ Wrote [tb] w w' ∧ w'.heap[tb]? = some (.cells #[.int .i64 n] 70 (0, 0)) := by
  have h21 := @run_callFunc_extern Tryz.prog 95 _ (fun args => ReflectliteValue.unpack (args.getD 0 (.tuple #[]))) Tryz.func95 (by kernel_rfl) (by kernel_rfl) (by kernel_rfl) (by kernel_rfl)
  have h22 := @run_callFunc_extern Tryz.prog 96 _ (ReflectliteValue.methodAny (ReflectliteValue.valueError "reflectlite.Value.Type" 0) (fun t _ _ _ => ReflectliteType.toType t)) Tryz.func96 (by kernel_rfl) (by kernel_rfl) (by kernel_rfl) (by kernel_rfl)
  have h23 := @run_callFunc_extern Tryz.prog 97 _ (ReflectliteValue.method (ReflectliteValue.valueError "reflectlite.Value.IsNil" 0) ReflectliteValue.isNil) Tryz.func97 (by kernel_rfl) (by kernel_rfl) (by kernel_rfl) (by kernel_rfl)
  have h56 := @run_callFunc_extern Tryz.prog 158 _ (ReflectliteType.abiMethod fun t => do pure (.int .u8 (← Rtype.kind t))) Tryz.func158 (by kernel_rfl) (by kernel_rfl) (by kernel_rfl) (by kernel_rfl)
  have h68 := @run_callFunc_extern Tryz.prog 171 _ (ReflectliteType.method ReflectliteType.elem) Tryz.func171 (by kernel_rfl) (by kernel_rfl) (by kernel_rfl) (by kernel_rfl)
  have h69 := @run_callFunc_extern Tryz.prog 172 _ (ReflectliteType.relation "Implements" ReflectliteType.implements_) Tryz.func172 (by kernel_rfl) (by kernel_rfl) (by kernel_rfl) (by kernel_rfl)
  have f21 := valueOfP
  have f22 := typeP
  have mK := methodKind
  have mE := methodElem
  have mI := methodImplements
  have kP := kindP
  have kN := kindN
  have eP := elemP
  have iN := implementsN
  obtain ⟨W1, hW1⟩ : ∃ W1, W1 = w.alloc (.cells #[.pointer (some ⟨tb, 0, none⟩)] 116) := ⟨_, rfl⟩
  obtain ⟨W2, hW2⟩ : ∃ W2, W2 = W1.alloc (.cells #[.pointer (some ⟨2, 116, none⟩), .pointer (some ⟨w.heap.size, 0, none⟩), .int .u64 150] 150) := ⟨_, rfl⟩
  have hb1 : Below w.heap.size w W1 := by rw [hW1]; exact (Below.refl _ w).alloc (Nat.le_refl _) _
  have hb2 : Below w.heap.size w W2 := by rw [hW2]; exact hb1.alloc hb1.size _
  have hrow1 : W1.heap[w.heap.size]? = some (.cells #[.pointer (some ⟨tb, 0, none⟩)] 116 (0, 0)) := by rw [hW1]; exact heap_alloc_new w _
  have hrow : W2.heap[w.heap.size]? = some (.cells #[.pointer (some ⟨tb, 0, none⟩)] 116 (0, 0)) := by rw [hW2, Below.heap_alloc _ _ _ (lt_of_heap hrow1)]; exact hrow1
  have hbox : W2.cell? ⟨w.heap.size, 0, none⟩ = some (.pointer (some ⟨tb, 0, none⟩)) := by rw [cell_of_row _ _ _ _ _ _ hrow]; rfl
  have n23 := isNilP ⟨w.heap.size, 0, none⟩ ⟨tb, 0, none⟩ W2 hbox
  have hg2 : W2.cell? ⟨0, 0, none⟩ = some (.iface 193 (.agg #[.pointer (some ⟨2, 30, none⟩)])) := (hb2.cell (p := ⟨0, 0, none⟩) hg.lt).trans hg
  have HC := Lib.hid (as_hitN n st tb w.heap.size o0 W2 hbox ((hb2.block _ (lt_of_heap ht)).trans ht))
  obtain ⟨T, v, hE⟩ := errOf_form n st
  rw [hE] at HC ⊢
  have HB2 : Hid (Below w.heap.size w W2) := hb2
  clear hE hb1 hb2 hrow1 hrow hbox ht hg
  subst hW2 hW1
  go_enter Tryz.func60, Tryz.ntmps60
  go_wp2_with (go_at_call 98; refine HC.out.mono ?_; rintro e w' ⟨rfl, hw, hh⟩)
  go_ret
  exact ⟨rfl, ((Wrote.of_below (S := []) HB2.out).mono (T := [tb]) (by simp)).trans hw, hh⟩
end Go.Proofs.YtaifmfnmgnmgbaaGreatDoor
/- fault: Code and Trail. -/
namespace Go.Proofs.YtaifmfnmgnmgbaaGreatDoor
open Go.RowKit Go.My
set_option maxRecDepth 100000 in
theorem code_nil (w : World) : Calls Tryz.prog 26 #[.nilIface] w fun e w' => e = .returned (.int .i64 0) ∧ Below w.heap.size w w' := by
  have HB : Hid (∀ o, Below w.heap.size w (w.alloc o)) := fun o => (Below.refl _ w).alloc (Nat.le_refl _) o
  go_enter Tryz.func26, Tryz.ntmps26
  go_wp2_with fail
  go_ret
  exact ⟨rfl, HB.out _⟩
set_option maxRecDepth 100000 in
theorem code_of (n : Int) (st : List StepT) (w : World) (hg : TypeIs w) : Calls Tryz.prog 26 #[errOf n st] w fun e w' => e = .returned (.int .i64 n) ∧ Below w.heap.size w w' := by
  obtain ⟨W1, hW1⟩ : ∃ W1, W1 = w.alloc (.cells #[.int .i64 9] 70) := ⟨_, rfl⟩
  have hb1 : Below w.heap.size w W1 := by rw [hW1]; exact (Below.refl _ w).alloc (Nat.le_refl _) _
  have HB1 := Lib.hid hb1
  have HC := Lib.hid (asN_hit n st w.heap.size (.int .i64 9) W1 (hg.below hg.lt hb1) (by rw [hW1]; exact heap_alloc_new w _))
  obtain ⟨T, v, hE⟩ := errOf_form n st
  rw [hE] at HC ⊢
  clear hE hb1 hg
  subst hW1
  go_enter Tryz.func26, Tryz.ntmps26
  go_wp2_with fail
  refine HC.out.mono ?_
  rintro e w' ⟨rfl, hw, hh⟩
  have hc : w'.cell? ⟨w.heap.size, 0, none⟩ = some (.int .i64 n) := by rw [cell_of_row _ _ _ _ _ _ hh]; rfl
  have hl := lt_of_heap hh
  have HE : Hid (Below w.heap.size w w') := HB1.out.trans (hw.below HB1.out.size fun g hg => by
    obtain rfl : g = w.heap.size := by simpa using hg
    exact Nat.le_refl _)
  clear hw hh
  go_wp2_with fail
  go_ret
  exact ⟨rfl, HE.out⟩
def stepL (s : StepT) : List Value := [.string s.1, .int .i64 s.2]
theorem stepL_len (s : StepT) : (stepL s).length = 2 := rfl
theorem step_info : (Tryz.prog.info? 161).map (fun i => (i.zero, i.size, i.bytes)) = some (some (.agg #[.string ByteArray.empty, .int .i64 0]), 2, 24) := by kernel_rfl
/-- What Trail leaves: the steps, in a row of its own. -/
def TrailLeft (w : World) (st : List StepT) (e : Ending) (w' : World) : Prop := ∃ v, e = .returned v ∧ w'.ownsRow w.heap.size 161 2 v st.length (st.flatMap stepL) ∧ Below w.heap.size w w'
theorem two_cells (w : World) (s : StepT) (t : TypeId) (j : Nat) (u : Value) (h : (stepL s)[j]? = some u) : (w.alloc (.cells #[.string s.1, .int .i64 s.2] t)).cell? ((⟨w.heap.size, 0, none⟩ : Addr).add j) = some u := by
  rw [Addr.add_lit, Nat.zero_add, cell_of_row _ _ _ _ _ _ (heap_alloc_new w _)]
  simpa [stepL] using h
end Go.Proofs.YtaifmfnmgnmgbaaGreatDoor
/- The variable that errors.As reads: from the row's condition to its cell; a world that meets the condition. -/
namespace Go.Proofs.YtaifmfnmgnmgbaaGreatDoor
open Go.ChangeShapes Go.WideShapes Go.RowKit
def laidH : List (String × DataW Unit) := [("errors.errorType", Rows.laid_errors_errorType)]
theorem own : ownKnob Tryz.prog.godebug = none := by kernel_rfl
theorem laidOut : laidOutB Tryz.prog = true := by kernel_rfl
theorem globalEt : Tryz.prog.globalNamed "errors.errorType" = some 0 := by kernel_rfl
theorem typeRt : (Tryz.prog.cutTypes.find? (·.1 == "internal/reflectlite.rtype")).map (·.2) = some 193 := by kernel_rfl
theorem oneRow : ((List.range 248).filter fun t => Tryz.prog.rowNamed t [101, 114, 114, 111, 114]) = [30] := by kernel_rfl
theorem sizeT : Tryz.prog.types.size = 248 := by kernel_rfl
theorem handle_of_laid {W : World} (h : laidMetH Tryz.prog laidH W) : TypeIs W := by
  have h' : laidMet Tryz.prog [] W ∧ handlesMet Tryz.prog laidH W := h
  obtain ⟨name, u, ty, e1, e2, e3, e4, e5⟩ := h'.2 _ (List.mem_singleton.2 rfl)
  have en : name = [101, 114, 114, 111, 114] := (Option.some.inj e1).symm
  subst en
  obtain rfl := Option.some.inj (typeRt.symm.trans e2)
  have hm : ty ∈ (List.range 248).filter fun t => Tryz.prog.rowNamed t [101, 114, 114, 111, 114] := List.mem_filter.2 ⟨List.mem_range.2 (by rw [← sizeT]; exact e3), e4⟩
  rw [oneRow] at hm
  obtain rfl := List.mem_singleton.1 hm
  have hh : typeHandle Tryz.prog 30 = .pointer (some ⟨2, 30, none⟩) := by kernel_rfl
  rw [hh] at e5
  show W.cell? _ = _
  simpa using World.var?_cell globalEt e5 0
/-- A world that meets the condition: the settled one, the variable's cell laid. -/
noncomputable def laidWorld (os : Os) : World :=
  let w0 := World.holding Tryz.prog os ⟨#[], #[], []⟩
  { w0 with heap := w0.heap.modify 0 fun
      | .cells _ t frozen => .cells #[.iface 193 (.agg #[.pointer (some ⟨2, 30, none⟩)])] t frozen
      | o => o }
theorem laidWorld_met (os : Os) (args : Array Value) : laidMetH Tryz.prog laidH ((laidWorld os).forCall (fun _ _ => 0) ⟨#[], args, []⟩).memory :=
  laidMetH_of_parts (laidMet_nil _ _) (by kernel_rfl)
end Go.Proofs.YtaifmfnmgnmgbaaGreatDoor
