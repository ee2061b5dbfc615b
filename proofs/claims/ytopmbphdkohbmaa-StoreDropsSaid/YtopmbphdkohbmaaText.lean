/- A store: the text of an error. -/
import Derived.Test.YtopmbphdkohbmaaPut
namespace Go.Proofs.Ytopmbphdkohbmaa
open Go.RowKit Go.My
set_option maxRecDepth 100000 in
theorem itoa1 (w : World) : Calls Try.prog 53 #[.int .i64 1] w fun e w' => e = .returned (.string ⟨#[49]⟩) ∧ w = w' := by
  go_enter Try.func53, Try.ntmps53
  go_wp2
  go_ret
  exact ⟨rfl, rfl⟩
set_option maxRecDepth 100000 in
theorem errno1 (w : World) : Calls Try.prog 52 #[.int .i64 1] w fun e w' => e = .returned (.string ⟨#[99, 111, 104, 111, 114, 116, 58, 32, 101, 114, 114, 111, 114, 32, 49]⟩) ∧ w = w' := by
  have hc := Lib.hid (itoa1 w)
  go_enter Try.func52, Try.ntmps52
  go_wp2_with (go_at_call 53; refine hc.out.mono ?_; rintro e w' ⟨rfl, rfl⟩)
  go_ret
  exact ⟨rfl, rfl⟩
/-- "store 1: cohort: error 1" -/
def store1 : ByteArray := ⟨#[115, 116, 111, 114, 101, 32, 49, 58, 32, 99, 111, 104, 111, 114, 116, 58, 32, 101, 114, 114, 111, 114, 32, 49]⟩
theorem m59 (e : Int) (w : World) : (method 208 59 (.int .i64 e) "Error").run Try.prog w = .ok (52, .int .i64 e) w := by kernel_rfl
set_option maxRecDepth 100000 in
theorem wrapped1 (w : World) : Calls Try.prog 67 #[.agg #[.string ⟨#[115, 116, 111, 114, 101]⟩, .int .i64 1, .iface 59 (.int .i64 1)]] w fun e w' => e = .returned (.string store1) ∧ Below w.heap.size w w' := by
  have hm := m59
  go_enter Try.func67, Try.ntmps67
  go_wp2_with fail
  refine wp_region_quiet_lit (by kernel_rfl) (by kernel_rfl) ?_
  repeat (quiet_step ((first | (go_at_call 53; exact Calls.quiet_of_same ((itoa1 _).mono fun _ _ h => ⟨h.1, h.2.symm⟩)) | (go_at_call 52; exact Calls.quiet_of_same ((errno1 _).mono fun _ _ h => ⟨h.1, h.2.symm⟩)))))
  refine wpQuiet_nil ?_
  rintro _ ⟨nq, rfl⟩
  go_wp2
  go_ret
  exact ⟨rfl, ⟨rfl, rfl, rfl, by simp, fun k hk => Below.heap_alloc _ _ _ hk⟩⟩
set_option maxRecDepth 100000 in
theorem text1 (w : World) : Calls Try.prog 20 #[errV 1 1] w fun e w' => e = .returned (.string store1) ∧ Below w.heap.size w w' := by
  unfold errV
  go_enter Try.func20, Try.ntmps20
  go_wp2_with (go_at_call 67; refine (wrapped1 _).mono ?_; rintro e w' ⟨rfl, hb⟩)
  go_ret
  exact ⟨rfl, hb⟩
end Go.Proofs.Ytopmbphdkohbmaa
