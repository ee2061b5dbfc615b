/- fault: the text of one error. -/
import Derived.Test.YtemgcliihbjjiaaDoorRat
import Derived.Deep.QuietTactic
import Derived.BigQuiet
import Derived.WalkLawsBesides
import Derived.Lib.Strings
namespace Go.Proofs.YtemgcliihbjjiaaDoor
open Go.RowKit Go.My
set_option maxRecDepth 100000 in
theorem itoa_n0 (w : World) : Calls Tryd.prog 74 #[.int .i64 0] w fun e w' => e = .returned (.string ⟨#[48]⟩) ∧ w = w' := by
  go_enter Tryd.func74, Tryd.ntmps74
  go_wp2
  go_ret
  exact ⟨rfl, rfl⟩
set_option maxRecDepth 100000 in
theorem itoa_n1 (w : World) : Calls Tryd.prog 74 #[.int .i64 1] w fun e w' => e = .returned (.string ⟨#[49]⟩) ∧ w = w' := by
  go_enter Tryd.func74, Tryd.ntmps74
  go_wp2
  go_ret
  exact ⟨rfl, rfl⟩
set_option maxRecDepth 100000 in
theorem errno_n1 (w : World) : Calls Tryd.prog 73 #[.int .i64 1] w fun e w' => e = .returned (.string ⟨#[99, 111, 104, 111, 114, 116, 58, 32, 101, 114, 114, 111, 114, 32, 49]⟩) ∧ w = w' := by
  have hc := Lib.hid (itoa_n1 w)
  go_enter Tryd.func73, Tryd.ntmps73
  go_wp2_with (go_at_call 74; refine hc.out.mono ?_; rintro e w' ⟨rfl, rfl⟩)
  go_ret
  exact ⟨rfl, rfl⟩
/-- "route 0: cohort: error 1" -/
def textB : ByteArray := ⟨#[114, 111, 117, 116, 101, 32, 48, 58, 32, 99, 111, 104, 111, 114, 116, 58, 32, 101, 114, 114, 111, 114, 32, 49]⟩
theorem textB_eq : (textB.toList == [114, 111, 117, 116, 101, 32, 48, 58, 32, 99, 111, 104, 111, 114, 116, 58, 32, 101, 114, 114, 111, 114, 32, 49]) = true := by rw [Lib.toList_data]; decide
theorem mErr (e : Int) (w : World) : (method 263 47 (.int .i64 e) "Error").run Tryd.prog w = .ok (73, .int .i64 e) w := by kernel_rfl
theorem mWrap (a b c : Value) (w : World) : (method 263 86 (.agg #[a, b, c]) "Error").run Tryd.prog w = .ok (88, .agg #[a, b, c]) w := by kernel_rfl
set_option maxRecDepth 100000 in
theorem wrappedB (w : World) : Calls Tryd.prog 88 #[.agg #[.string ⟨#[114, 111, 117, 116, 101]⟩, .int .i64 0, .iface 47 (.int .i64 1)]] w fun e w' => e = .returned (.string textB) ∧ Below w.heap.size w w' := by
  have hm := mErr
  go_enter Tryd.func88, Tryd.ntmps88
  go_wp2_with fail
  refine wp_region_quiet_lit (by kernel_rfl) (by kernel_rfl) ?_
  repeat (quiet_step ((first | (go_at_call 74; exact Calls.quiet_of_same ((itoa_n0 _).mono fun _ _ h => ⟨h.1, h.2.symm⟩)) | (go_at_call 73; exact Calls.quiet_of_same ((errno_n1 _).mono fun _ _ h => ⟨h.1, h.2.symm⟩)))))
  refine wpQuiet_nil ?_
  rintro _ ⟨nq, rfl⟩
  go_wp2
  go_ret
  exact ⟨rfl, ⟨rfl, rfl, rfl, by simp, fun k hk => Below.heap_alloc _ _ _ hk⟩⟩
set_option maxRecDepth 100000 in
theorem text_B (w : World) : Calls Tryd.prog 21 #[errOf 1 [(⟨#[114, 111, 117, 116, 101]⟩, 0)]] w fun e w' => e = .returned (.string textB) ∧ Below w.heap.size w w' := by
  have hm := mWrap
  show Calls _ _ #[.iface 86 (.agg #[.string ⟨#[114, 111, 117, 116, 101]⟩, .int .i64 0, .iface 47 (.int .i64 1)])] _ _
  go_enter Tryd.func21, Tryd.ntmps21
  go_wp2_with (go_at_call 88; refine (wrappedB _).mono ?_; rintro e w' ⟨rfl, hb⟩)
  go_ret
  exact ⟨rfl, hb⟩
end Go.Proofs.YtemgcliihbjjiaaDoor
