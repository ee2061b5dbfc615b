/- fault: Is; errors.Is by its own text. -/
import Derived.Test.YtapeplcpgcbinaaDoorAs2
namespace Go.Proofs.YtapeplcpgcbinaaDoor
open Go.RowKit Go.My Go.Extern.Stop Go.Stop Go.Extern
theorem no_comp : (Tryd.prog.info? 22).map (fun i => i.comparable) = some true := by kernel_rfl
theorem eqlIn (d : Nat) (a b : Int) (w : World) : (Op.equalIn (d + 2) 27 (.iface 22 (.int .i64 a)) (.iface 22 (.int .i64 b))).run Tryd.prog w = .ok (a == b) w := by
  obtain ⟨i, hi, hc⟩ := Option.map_eq_some_iff.1 no_comp
  have h1 : i.comparable = true := hc
  simp [Op.equalIn, run_underlying Tryd.underlying27, run_underlying Tryd.underlying22, typeInfo, hi, h1]
theorem eqlNN (a b : Int) (w : World) : (binOp .eql 27 (.iface 22 (.int .i64 a)) (.iface 22 (.int .i64 b))).run Tryd.prog w = .ok (.bool (a == b)) w := by
  simp only [binOp]
  simp [Op.equal, Op.maxDepth, eqlIn 9998]
theorem eqlWN (x y : Value) (w : World) : (binOp .eql 27 (.iface 44 x) (.iface 22 y)).run Tryd.prog w = .ok (.bool false) w := run_eql_iface_types _ _ _ _ Tryd.underlying27 (by decide) w
def rtComparable (t : TypeId) : Sem Value := do
  Rtype.noPackHeld "Comparable" t
  pure (.bool (← typeInfo t).comparable)
theorem methodComparable (h : Value) (w : World) : (Go.method 228 66 (.agg #[h]) "Comparable").run Tryd.prog w = .ok (67, .agg #[h]) w := by kernel_rfl
theorem comparableN (w : World) : (ReflectliteType.method rtComparable #[.agg #[.pointer (some ⟨4, 22, none⟩)]]).run Tryd.prog w = .ok (.bool true) w := by kernel_rfl
theorem noIsN (v : Value) (w : World) : (Instr.typeAssert (.iface 22 v) 27 79 true).run Tryd.prog w = .ok (.tuple #[.nilIface, .bool false]) w := run_typeAssert_lacksB Tryd.underlying79 (by kernel_rfl) (by kernel_rfl) v 27 w
theorem noIsW (v : Value) (w : World) : (Instr.typeAssert (.iface 44 v) 27 79 true).run Tryd.prog w = .ok (.tuple #[.nilIface, .bool false]) w := run_typeAssert_lacksB Tryd.underlying79 (by kernel_rfl) (by kernel_rfl) v 27 w
def BoolIs (w : World) (b : Bool) (e : Ending) (w' : World) : Prop := e = .returned (.bool b) ∧ Below w.heap.size w w'
set_option maxRecDepth 100000 in
set_option maxHeartbeats 4000000 in
theorem eis_of (n f : Int) (st : List StepT) (w : World) : Calls Tryd.prog 27 #[errOf n st, .iface 22 (.int .i64 f), .bool true] w (BoolIs w (n == f)) := by
  have eN := eqlNN
  have eW := eqlWN
  have nI := noIsN
  have nJ := noIsW
  have nU := noUnwrapN
  have nS := noUnwrapsN
  have hU := hasUnwrapW
  have mU := methodUnwrap
  have P0 : Hid (Below w.heap.size w w) := Below.refl _ _
  go_enter Tryd.func27, Tryd.ntmps27
  go_wp2_with fail
  go_loopw [0] (fun x wr => ∃ st' : List StepT, x = errOf n st' ∧ Hid (Below w.heap.size w wr)) (fun x _ => SizeOf.sizeOf x)
  case atStart => exact ⟨st, rfl, P0⟩
  case round =>
    clear P0
    obtain ⟨st', rfl, HR⟩ := hrel
    cases st' with
    | cons s st1 =>
      have HUW : Hid (Calls Tryd.prog 61 #[.agg #[.string s.1, .int .i64 s.2, errOf n st1]] wr fun e w' => e = .returned (errOf n st1) ∧ Below wr.heap.size wr w') := unwrap_uw _ _ _ _
      have HSZ : Hid (SizeOf.sizeOf (errOf n st1) < SizeOf.sizeOf (errOf n (s :: st1))) := by show _ < _; rw [errOf]; simp; omega
      obtain ⟨T, v, hE⟩ := errOf_form n st1
      rw [show errOf n (s :: st1) = .iface 44 (.agg #[.string s.1, .int .i64 s.2, errOf n st1]) from rfl] at HSZ ⊢
      have HE := Lib.hid hE
      rw [hE] at HUW HSZ ⊢
      clear hE
      go_wp2_with (go_at_call 61; refine HUW.out.mono ?_; rintro e w2 ⟨rfl, hb2⟩)
      exact ⟨⟨st1, HE.out.symm, HR.out.trans (hb2.mono HR.out.size)⟩, HSZ.out⟩
    | nil =>
      rw [show errOf n [] = .iface 22 (.int .i64 n) from rfl]
      cases hnf : (n == f) with
      | true =>
        have HNF := Lib.hid hnf
        go_wp2_with fail
        go_ret
        exact ⟨rfl, HR.out⟩
      | false =>
        have HNF := Lib.hid hnf
        go_wp2_with fail
        go_ret
        exact ⟨rfl, HR.out⟩
set_option maxRecDepth 100000 in
set_option maxHeartbeats 4000000 in
theorem eIs_of (n f : Int) (st : List StepT) (w : World) : Calls Tryd.prog 20 #[errOf n st, .iface 22 (.int .i64 f)] w (BoolIs w (n == f)) := by
  have h26 := @run_callFunc_extern Tryd.prog 26 _ ReflectliteType.typeOf Tryd.func26 (by kernel_rfl) (by kernel_rfl) (by kernel_rfl) (by kernel_rfl)
  have h67 := @run_callFunc_extern Tryd.prog 67 _ (ReflectliteType.method rtComparable) Tryd.func67 (by kernel_rfl) (by kernel_rfl) (by kernel_rfl) (by kernel_rfl)
  have tN := typeOfN
  have mC := methodComparable
  have cN := comparableN
  have HC := Lib.hid (eis_of n f st w)
  unfold BoolIs at HC
  obtain ⟨T, v, hE⟩ := errOf_form n st
  rw [hE] at HC ⊢
  clear hE
  obtain ⟨b, hb⟩ : ∃ b, b = (n == f) := ⟨_, rfl⟩
  rw [← hb] at HC ⊢
  clear hb
  go_enter Tryd.func20, Tryd.ntmps20
  go_wp2_with (go_at_call 27; refine HC.out.mono ?_; rintro e w2 ⟨rfl, hb2⟩)
  go_ret
  exact ⟨rfl, hb2⟩
set_option maxRecDepth 100000 in
theorem is_of (n f : Int) (st : List StepT) (w : World) (hn : n ≠ 0) : Calls Tryd.prog 17 #[errOf n st, .int .i64 f] w (BoolIs w (n == f)) := by
  have HC := Lib.hid (eIs_of n f st w)
  unfold BoolIs at HC
  obtain ⟨T, v, hE⟩ := errOf_form n st
  rw [hE] at HC ⊢
  clear hE
  by_cases hf : f = 0
  · subst hf
    have hb : (n == 0) = false := by simpa using hn
    rw [hb]
    clear HC hb hn
    go_enter Tryd.func17, Tryd.ntmps17
    go_wp2_with fail
    go_ret
    exact ⟨rfl, Below.refl _ _⟩
  · have hf1 : (f == 0) = false := by simpa using hf
    obtain ⟨b, hb⟩ : ∃ b, b = (n == f) := ⟨_, rfl⟩
    rw [← hb] at HC ⊢
    clear hb hf hn
    go_enter Tryd.func17, Tryd.ntmps17
    go_wp2_with (go_at_call 20; refine HC.out.mono ?_; rintro e w2 ⟨rfl, hb2⟩)
    go_ret
    exact ⟨rfl, hb2⟩
set_option maxRecDepth 100000 in
theorem eIs_nil (f : Int) (w : World) : Calls Tryd.prog 20 #[.nilIface, .iface 22 (.int .i64 f)] w (BoolIs w false) := by
  have he : ∀ W : World, (binOp .eql 27 .nilIface (.iface 22 (.int .i64 f))).run Tryd.prog W = .ok (.bool false) W := fun W => run_eql_iface_nil_left W 22 (.int .i64 f) Tryd.underlying27
  go_enter Tryd.func20, Tryd.ntmps20
  go_wp2
  go_ret
  exact ⟨rfl, Below.refl _ _⟩
set_option maxRecDepth 100000 in
theorem is_nil (f : Int) (w : World) : Calls Tryd.prog 17 #[.nilIface, .int .i64 f] w (BoolIs w (f == 0)) := by
  have HC := Lib.hid (eIs_nil f w)
  unfold BoolIs at HC
  by_cases hf : f = 0
  · subst hf
    go_enter Tryd.func17, Tryd.ntmps17
    go_wp2_with fail
    go_ret
    exact ⟨rfl, Below.refl _ _⟩
  · have hf1 : (f == 0) = false := by simpa using hf
    rw [hf1]
    clear hf
    go_enter Tryd.func17, Tryd.ntmps17
    go_wp2_with (go_at_call 20; refine HC.out.mono ?_; rintro e w2 ⟨rfl, hb2⟩)
    go_ret
    exact ⟨rfl, hb2⟩
end Go.Proofs.YtapeplcpgcbinaaDoor
