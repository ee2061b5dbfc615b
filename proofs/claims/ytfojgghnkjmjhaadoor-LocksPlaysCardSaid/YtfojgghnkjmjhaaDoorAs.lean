/- errors.As at a number and at a wrapped error, by its own text. -/
import Derived.Test.YtfojgghnkjmjhaaDoorChecked
import Derived.WalkKit
import Derived.LaidEql
import Derived.Stop.Asserts
import Derived.RowKitTokens
import Derived.Lib.Hide
import Derived.Below
namespace Go.Proofs.YtfojgghnkjmjhaaDoor
open Go.RowKit Go.Extern.Stop Go.Stop Go.Extern
/-- a step: where, and at what -/
abbrev StepT := ByteArray × Int
/-- an error of a number that came through steps, the outermost first -/
def errOf (n : Int) : List StepT → Value
  | [] => .iface 37 (.int .i64 n)
  | s :: st => .iface 65 (.agg #[.string s.1, .int .i64 s.2, errOf n st])
/-- the variable that errors.As reads -/
def TypeIs (w : World) : Prop := w.cell? ⟨0, 0, none⟩ = some (.iface 89 (.agg #[.pointer (some ⟨4, 35, none⟩)]))
theorem TypeIs.lt {w : World} (h : TypeIs w) : 0 < w.heap.size := World.block_lt_of_cell? w ⟨0, 0, none⟩ h
theorem TypeIs.below {N : Nat} {w w' : World} (h : TypeIs w) (hN : 0 < N) (hb : Below N w w') : TypeIs w' := (hb.cell (p := ⟨0, 0, none⟩) hN).trans h
theorem as_nil (v : Value) (w : World) : Calls Tryd.prog 26 #[.nilIface, v] w fun e w' => e = .returned (.bool false) ∧ w = w' := by
  go_enter Tryd.func26, Tryd.ntmps26
  go_wp2
  go_ret
  exact ⟨rfl, rfl⟩
/-! ### the model's entries, at this program's types -/
theorem valueOfP (t : Addr) (w : World) : (ReflectliteValue.unpack (.iface 63 (.pointer (some t)))).run Tryd.prog w
    = .ok (.agg #[.pointer (some ⟨4, 63, none⟩), .pointer (some ⟨w.heap.size, 0, none⟩), .int .u64 150]) (w.alloc (.cells #[.pointer (some t)] 63)) := by kernel_rfl
theorem valueOfQ (t : Addr) (w : World) : (ReflectliteValue.unpack (.iface 66 (.pointer (some t)))).run Tryd.prog w
    = .ok (.agg #[.pointer (some ⟨4, 66, none⟩), .pointer (some ⟨w.heap.size, 0, none⟩), .int .u64 150]) (w.alloc (.cells #[.pointer (some t)] 66)) := by kernel_rfl
theorem valueOfN (n : Int) (w : World) : (ReflectliteValue.unpack (.iface 37 (.int .i64 n))).run Tryd.prog w
    = .ok (.agg #[.pointer (some ⟨4, 37, none⟩), .pointer (some ⟨w.heap.size, 0, none⟩), .int .u64 130]) (w.alloc (.cells #[.int .i64 n] 37)) := by kernel_rfl
theorem valueOfW (a b c : Value) (w : World) : (ReflectliteValue.unpack (.iface 65 (.agg #[a, b, c]))).run Tryd.prog w
    = .ok (.agg #[.pointer (some ⟨4, 65, none⟩), .pointer (some ⟨w.heap.size, 0, none⟩), .int .u64 153]) (w.alloc (.cells #[a, b, c] 65)) := by kernel_rfl
theorem typeP (a : Addr) (w : World) : (ReflectliteValue.methodAny (ReflectliteValue.valueError "reflectlite.Value.Type" 0) (fun t _ _ _ => ReflectliteType.toType t) #[.agg #[.pointer (some ⟨4, 63, none⟩), .pointer (some a), .int .u64 150]]).run Tryd.prog w
    = .ok (.iface 89 (.agg #[.pointer (some ⟨4, 63, none⟩)])) w := by kernel_rfl
theorem typeQ (a : Addr) (w : World) : (ReflectliteValue.methodAny (ReflectliteValue.valueError "reflectlite.Value.Type" 0) (fun t _ _ _ => ReflectliteType.toType t) #[.agg #[.pointer (some ⟨4, 66, none⟩), .pointer (some a), .int .u64 150]]).run Tryd.prog w
    = .ok (.iface 89 (.agg #[.pointer (some ⟨4, 66, none⟩)])) w := by kernel_rfl
theorem methodKind (h : Value) (w : World) : (Go.method 264 89 (.agg #[h]) "Kind").run Tryd.prog w = .ok (73, h) w := by kernel_rfl
theorem methodElem (h : Value) (w : World) : (Go.method 264 89 (.agg #[h]) "Elem").run Tryd.prog w = .ok (98, .agg #[h]) w := by kernel_rfl
theorem methodImplements (h : Value) (w : World) : (Go.method 264 89 (.agg #[h]) "Implements").run Tryd.prog w = .ok (99, .agg #[h]) w := by kernel_rfl
theorem methodAssignableTo (h : Value) (w : World) : (Go.method 264 89 (.agg #[h]) "AssignableTo").run Tryd.prog w = .ok (96, .agg #[h]) w := by kernel_rfl
theorem methodUnwrap (a b c : Value) (w : World) : (Go.method 264 65 (.agg #[a, b, c]) "Unwrap").run Tryd.prog w = .ok (91, .agg #[a, b, c]) w := by kernel_rfl
theorem kindP (w : World) : ((ReflectliteType.abiMethod fun t => (fun a : Nat => Value.int IntKind.u8 (a : Int)) <$> Rtype.kind t) #[.pointer (some ⟨4, 63, none⟩)]).run Tryd.prog w = .ok (.int .u8 22) w := by kernel_rfl
theorem kindQ (w : World) : ((ReflectliteType.abiMethod fun t => (fun a : Nat => Value.int IntKind.u8 (a : Int)) <$> Rtype.kind t) #[.pointer (some ⟨4, 66, none⟩)]).run Tryd.prog w = .ok (.int .u8 22) w := by kernel_rfl
theorem kindN (w : World) : ((ReflectliteType.abiMethod fun t => (fun a : Nat => Value.int IntKind.u8 (a : Int)) <$> Rtype.kind t) #[.pointer (some ⟨4, 37, none⟩)]).run Tryd.prog w = .ok (.int .u8 2) w := by kernel_rfl
theorem kindW (w : World) : ((ReflectliteType.abiMethod fun t => (fun a : Nat => Value.int IntKind.u8 (a : Int)) <$> Rtype.kind t) #[.pointer (some ⟨4, 65, none⟩)]).run Tryd.prog w = .ok (.int .u8 25) w := by kernel_rfl
theorem rlm (z : Sem Value) (f : TypeId → Addr → Nat → Nat → Sem Value) (v : Value) :
    ReflectliteValue.method z f #[v] = (do match ← ReflectliteValue.parts v with | none => z | some (t, a, fl) => f t a fl (fl % 32)) := rfl
theorem partsP (a : Addr) (w : World) : (ReflectliteValue.parts (.agg #[.pointer (some ⟨4, 63, none⟩), .pointer (some a), .int .u64 150])).run Tryd.prog w = .ok (some (63, a, 150)) w := by kernel_rfl
theorem partsQ (a : Addr) (w : World) : (ReflectliteValue.parts (.agg #[.pointer (some ⟨4, 66, none⟩), .pointer (some a), .int .u64 150])).run Tryd.prog w = .ok (some (66, a, 150)) w := by kernel_rfl
theorem isNilP (a p : Addr) (W : World) (ha : W.cell? a = some (.pointer (some p))) :
    (ReflectliteValue.method (ReflectliteValue.valueError "reflectlite.Value.IsNil" 0) ReflectliteValue.isNil #[.agg #[.pointer (some ⟨4, 63, none⟩), .pointer (some a), .int .u64 150]]).run Tryd.prog W = .ok (.bool false) W := by
  rw [rlm]
  simp only [Sem.run_bind, partsP, Result.andThen]
  simp [ReflectliteValue.isNil, loadVar, isAgg, underlying, Tryd.underlying63, ha, Result.andThen]
theorem isNilQ (a p : Addr) (W : World) (ha : W.cell? a = some (.pointer (some p))) :
    (ReflectliteValue.method (ReflectliteValue.valueError "reflectlite.Value.IsNil" 0) ReflectliteValue.isNil #[.agg #[.pointer (some ⟨4, 66, none⟩), .pointer (some a), .int .u64 150]]).run Tryd.prog W = .ok (.bool false) W := by
  rw [rlm]
  simp only [Sem.run_bind, partsQ, Result.andThen]
  simp [ReflectliteValue.isNil, loadVar, isAgg, underlying, Tryd.underlying66, ha, Result.andThen]
theorem elemP (w : World) : (ReflectliteType.method ReflectliteType.elem #[.agg #[.pointer (some ⟨4, 63, none⟩)]]).run Tryd.prog w = .ok (.iface 89 (.agg #[.pointer (some ⟨4, 37, none⟩)])) w := by kernel_rfl
theorem elemQ (w : World) : (ReflectliteType.method ReflectliteType.elem #[.agg #[.pointer (some ⟨4, 66, none⟩)]]).run Tryd.prog w = .ok (.iface 89 (.agg #[.pointer (some ⟨4, 65, none⟩)])) w := by kernel_rfl
theorem implementsN (w : World) : (ReflectliteType.relation "Implements" ReflectliteType.implements_ #[.agg #[.pointer (some ⟨4, 37, none⟩)], .iface 89 (.agg #[.pointer (some ⟨4, 35, none⟩)])]).run Tryd.prog w = .ok (.bool true) w := by kernel_rfl
theorem implementsW (w : World) : (ReflectliteType.relation "Implements" ReflectliteType.implements_ #[.agg #[.pointer (some ⟨4, 65, none⟩)], .iface 89 (.agg #[.pointer (some ⟨4, 35, none⟩)])]).run Tryd.prog w = .ok (.bool true) w := by kernel_rfl
theorem typeOfN (v : Value) (w : World) : (ReflectliteType.typeOf #[.iface 37 v]).run Tryd.prog w = .ok (.iface 89 (.agg #[.pointer (some ⟨4, 37, none⟩)])) w := by kernel_rfl
theorem typeOfW (v : Value) (w : World) : (ReflectliteType.typeOf #[.iface 65 v]).run Tryd.prog w = .ok (.iface 89 (.agg #[.pointer (some ⟨4, 65, none⟩)])) w := by kernel_rfl
theorem assignNN (w : World) : (ReflectliteType.relation "AssignableTo" ReflectliteType.assignableTo #[.agg #[.pointer (some ⟨4, 37, none⟩)], .iface 89 (.agg #[.pointer (some ⟨4, 37, none⟩)])]).run Tryd.prog w = .ok (.bool true) w := by kernel_rfl
theorem assignWN (w : World) : (ReflectliteType.relation "AssignableTo" ReflectliteType.assignableTo #[.agg #[.pointer (some ⟨4, 65, none⟩)], .iface 89 (.agg #[.pointer (some ⟨4, 37, none⟩)])]).run Tryd.prog w = .ok (.bool false) w := by kernel_rfl
theorem assignWW (w : World) : (ReflectliteType.relation "AssignableTo" ReflectliteType.assignableTo #[.agg #[.pointer (some ⟨4, 65, none⟩)], .iface 89 (.agg #[.pointer (some ⟨4, 65, none⟩)])]).run Tryd.prog w = .ok (.bool true) w := by kernel_rfl
theorem assignNW (w : World) : (ReflectliteType.relation "AssignableTo" ReflectliteType.assignableTo #[.agg #[.pointer (some ⟨4, 37, none⟩)], .iface 89 (.agg #[.pointer (some ⟨4, 65, none⟩)])]).run Tryd.prog w = .ok (.bool false) w := by kernel_rfl
theorem noAsN (v : Value) (w : World) : (Instr.typeAssert (.iface 37 v) 35 94 true).run Tryd.prog w = .ok (.tuple #[.nilIface, .bool false]) w := run_typeAssert_lacksB Tryd.underlying94 (by kernel_rfl) (by kernel_rfl) v 35 w
theorem noAsW (v : Value) (w : World) : (Instr.typeAssert (.iface 65 v) 35 94 true).run Tryd.prog w = .ok (.tuple #[.nilIface, .bool false]) w := run_typeAssert_lacksB Tryd.underlying94 (by kernel_rfl) (by kernel_rfl) v 35 w
theorem noUnwrapN (v : Value) (w : World) : (Instr.typeAssert (.iface 37 v) 35 97 true).run Tryd.prog w = .ok (.tuple #[.nilIface, .bool false]) w := run_typeAssert_lacksB Tryd.underlying97 (by kernel_rfl) (by kernel_rfl) v 35 w
theorem noUnwrapsN (v : Value) (w : World) : (Instr.typeAssert (.iface 37 v) 35 99 true).run Tryd.prog w = .ok (.tuple #[.nilIface, .bool false]) w := run_typeAssert_lacksB Tryd.underlying99 (by kernel_rfl) (by kernel_rfl) v 35 w
theorem hasUnwrapW (v : Value) (w : World) : (Instr.typeAssert (.iface 65 v) 35 97 true).run Tryd.prog w = .ok (.tuple #[.iface 65 v, .bool true]) w := run_typeAssert_hasB Tryd.underlying97 (by kernel_rfl) v 35 w
theorem elemOfP (w : World) : (Rtype.elem? 63).run Tryd.prog w = .ok (some 37) w := by kernel_rfl
theorem elemOfQ (w : World) : (Rtype.elem? 66).run Tryd.prog w = .ok (some 65) w := by kernel_rfl
theorem mkN (p : Addr) (w : World) : (ReflectliteValue.mk 37 p ReflectliteValue.flagAddr).run Tryd.prog w = .ok (.agg #[.pointer (some ⟨4, 37, none⟩), .pointer (some p), .int .u64 386]) w := by kernel_rfl
theorem mkW (p : Addr) (w : World) : (ReflectliteValue.mk 65 p ReflectliteValue.flagAddr).run Tryd.prog w = .ok (.agg #[.pointer (some ⟨4, 65, none⟩), .pointer (some p), .int .u64 409]) w := by kernel_rfl
theorem elemVP (a p : Addr) (W : World) (ha : W.cell? a = some (.pointer (some p))) :
    (ReflectliteValue.method (ReflectliteValue.valueError "reflectlite.Value.Elem" 0) ReflectliteValue.elem #[.agg #[.pointer (some ⟨4, 63, none⟩), .pointer (some a), .int .u64 150]]).run Tryd.prog W
      = .ok (.agg #[.pointer (some ⟨4, 37, none⟩), .pointer (some p), .int .u64 386]) W := by
  rw [rlm]
  simp only [Sem.run_bind, partsP, Result.andThen]
  simp [ReflectliteValue.elem, loadVar, isAgg, underlying, Tryd.underlying63, ha, Result.andThen, elemOfP, mkN]
theorem elemVQ (a p : Addr) (W : World) (ha : W.cell? a = some (.pointer (some p))) :
    (ReflectliteValue.method (ReflectliteValue.valueError "reflectlite.Value.Elem" 0) ReflectliteValue.elem #[.agg #[.pointer (some ⟨4, 66, none⟩), .pointer (some a), .int .u64 150]]).run Tryd.prog W
      = .ok (.agg #[.pointer (some ⟨4, 65, none⟩), .pointer (some p), .int .u64 409]) W := by
  rw [rlm]
  simp only [Sem.run_bind, partsQ, Result.andThen]
  simp [ReflectliteValue.elem, loadVar, isAgg, underlying, Tryd.underlying66, ha, Result.andThen, elemOfQ, mkW]
theorem rls (v x : Value) : ReflectliteValue.set #[v, x] = (do
    let (some (dst, a, fl), some (src, b, _)) := (← ReflectliteValue.parts v, ← ReflectliteValue.parts x)
      | unsupported (.noEntry "extern/(internal/reflectlite.Value).Set.zeroValue")
    if fl / ReflectliteValue.flagAddr % 2 == 0 then unsupported (.noEntry "extern/(internal/reflectlite.Value).Set.unaddressable")
    let val ← loadVar src b
    if ← Rtype.directlyAssignable dst src then storeVar dst a val
    else if ← Rtype.implements dst src then
      if (← Rtype.kind src) == 20 then
        match val with
        | .nilIface => unsupported (.noEntry "extern/reflectlite: a nil value of one interface type handed on as a value of another")
        | _ => storeVar dst a val
      else storeVar dst a (.iface src val)
    else panicString ("reflectlite.Set: value of type " ++ (← Rtype.spelt src) ++ " is not assignable to type " ++ (← Rtype.spelt dst))
    pure (.tuple #[])) := rfl
theorem partsNa (a : Addr) (w : World) : (ReflectliteValue.parts (.agg #[.pointer (some ⟨4, 37, none⟩), .pointer (some a), .int .u64 386])).run Tryd.prog w = .ok (some (37, a, 386)) w := by kernel_rfl
theorem partsN (a : Addr) (w : World) : (ReflectliteValue.parts (.agg #[.pointer (some ⟨4, 37, none⟩), .pointer (some a), .int .u64 130])).run Tryd.prog w = .ok (some (37, a, 130)) w := by kernel_rfl
theorem partsWa (a : Addr) (w : World) : (ReflectliteValue.parts (.agg #[.pointer (some ⟨4, 65, none⟩), .pointer (some a), .int .u64 409])).run Tryd.prog w = .ok (some (65, a, 409)) w := by kernel_rfl
theorem partsW (a : Addr) (w : World) : (ReflectliteValue.parts (.agg #[.pointer (some ⟨4, 65, none⟩), .pointer (some a), .int .u64 153])).run Tryd.prog w = .ok (some (65, a, 153)) w := by kernel_rfl
theorem directN (w : World) : (Rtype.directlyAssignable 37 37).run Tryd.prog w = .ok true w := by kernel_rfl
theorem directW (w : World) : (Rtype.directlyAssignable 65 65).run Tryd.prog w = .ok true w := by kernel_rfl
theorem sizeN (w : World) : (sizeOf 37).run Tryd.prog w = .ok 1 w := by kernel_rfl
theorem sizeW (w : World) : (sizeOf 65).run Tryd.prog w = .ok 3 w := by kernel_rfl
theorem setN (ta b : Addr) (n : Int) (old : Value) (W : World) (hb : W.cell? b = some (.int .i64 n)) (ht : W.cell? ta = some old) (hf : W.frozen? ta = false) :
    (ReflectliteValue.set #[.agg #[.pointer (some ⟨4, 37, none⟩), .pointer (some ta), .int .u64 386], .agg #[.pointer (some ⟨4, 37, none⟩), .pointer (some b), .int .u64 130]]).run Tryd.prog W
      = .ok (.tuple #[]) (W.setCell ta (.int .i64 n)) := by
  rw [rls]
  simp only [Sem.run_bind, partsNa, partsN, Result.andThen]
  simp [ReflectliteValue.flagAddr, loadVar, isAgg, underlying, Tryd.underlying37, hb, Result.andThen, directN, storeVar, Value.cells, storeCells, Addr.add]
  rw [run_store Tryd.prog W ta _ _ (by rfl)]
  simp [ht, hf]
end Go.Proofs.YtfojgghnkjmjhaaDoor
