/- Book: errors. -/
import Derived.Test.YtlepjjcnlcnnfaaDoorChecked
import Derived.Test.YtlepjjcnlcnnfaaDoorGenw
import Derived.Test.YtlepjjcnlcnnfaaDoorGenl
import Derived.WalkSpells
import Derived.WalkLawsBesides
import Derived.Deep.QuietTactic
import Derived.BigQuiet
import Derived.StillTailTactics
import Derived.Lib.Hide
namespace Go.Proofs.YtlepjjcnlcnnfaaDoor.Book
open Go.RowKit Go.My

def wrapV (at_ : Int) (e : Int) : Value := .iface 88 (.agg #[.string ⟨#[98, 111, 111, 107]⟩, .int .i64 at_, .iface 41 (.int .i64 e)])
set_option maxRecDepth 100000 in
theorem of_any (e : Int) (w : World) (he : (e == 0) = false) : Calls Tryd.prog 30 #[.int .i64 e] w fun r w' => r = .returned (.iface 41 (.int .i64 e)) ∧ w = w' := by
  go_enter Tryd.func30, Tryd.ntmps30
  go_wp2
  go_ret
  exact ⟨rfl, rfl⟩
set_option maxRecDepth 100000 in
theorem wrap_any (e at_ : Int) (name : ByteArray) (w : World) : Calls Tryd.prog 29 #[.iface 41 (.int .i64 e), .string name, .int .i64 at_] w fun r w' => r = .returned (.iface 88 (.agg #[.string name, .int .i64 at_, .iface 41 (.int .i64 e)])) ∧ w = w' := by
  go_enter Tryd.func29, Tryd.ntmps29
  go_wp2
  go_ret
  exact ⟨rfl, rfl⟩

set_option maxRecDepth 100000 in
theorem itoa2 (w : World) : Calls Tryd.prog 78 #[.int .i64 2] w fun e w' => e = .returned (.string ⟨#[50]⟩) ∧ w = w' := by
  go_enter Tryd.func78, Tryd.ntmps78
  go_wp2
  go_ret
  exact ⟨rfl, rfl⟩
set_option maxRecDepth 100000 in
theorem itoa1 (w : World) : Calls Tryd.prog 78 #[.int .i64 1] w fun e w' => e = .returned (.string ⟨#[49]⟩) ∧ w = w' := by
  go_enter Tryd.func78, Tryd.ntmps78
  go_wp2
  go_ret
  exact ⟨rfl, rfl⟩
set_option maxRecDepth 100000 in
theorem errno1 (w : World) : Calls Tryd.prog 77 #[.int .i64 1] w fun e w' => e = .returned (.string ⟨#[99, 111, 104, 111, 114, 116, 58, 32, 101, 114, 114, 111, 114, 32, 49]⟩) ∧ w = w' := by
  have hc := Lib.hid (itoa1 w)
  go_enter Tryd.func77, Tryd.ntmps77
  go_wp2_with (go_at_call 78; refine hc.out.mono ?_; rintro e w' ⟨rfl, rfl⟩)
  go_ret
  exact ⟨rfl, rfl⟩
theorem m43 (e : Int) (w : World) : (method 263 41 (.int .i64 e) "Error").run Tryd.prog w = .ok (77, .int .i64 e) w := by kernel_rfl
theorem m50 (v : Value) (w : World) : (method 263 88 v "Error").run Tryd.prog w = .ok (94, v) w := by kernel_rfl
/-- "book 2: cohort: error 1" -/
def book2 : ByteArray := ⟨#[98, 111, 111, 107, 32, 50, 58, 32, 99, 111, 104, 111, 114, 116, 58, 32, 101, 114, 114, 111, 114, 32, 49]⟩
set_option maxRecDepth 100000 in
theorem wrapped2 (w : World) : Calls Tryd.prog 94 #[.agg #[.string ⟨#[98, 111, 111, 107]⟩, .int .i64 2, .iface 41 (.int .i64 1)]] w fun e w' => e = .returned (.string book2) ∧ Below w.heap.size w w' := by
  have hm := m43
  go_enter Tryd.func94, Tryd.ntmps94
  go_wp2_with fail
  refine wp_region_quiet_lit (by kernel_rfl) (by kernel_rfl) ?_
  repeat (quiet_step ((first | (go_at_call 78; exact Calls.quiet_of_same ((itoa2 _).mono fun _ _ h => ⟨h.1, h.2.symm⟩)) | (go_at_call 77; exact Calls.quiet_of_same ((errno1 _).mono fun _ _ h => ⟨h.1, h.2.symm⟩)))))
  refine wpQuiet_nil ?_
  rintro _ ⟨nq, rfl⟩
  go_wp2
  go_ret
  exact ⟨rfl, ⟨rfl, rfl, rfl, by simp, fun k hk => Below.heap_alloc _ _ _ hk⟩⟩
set_option maxRecDepth 100000 in
theorem text2 (w : World) : Calls Tryd.prog 14 #[wrapV 2 1] w fun e w' => e = .returned (.string book2) ∧ Below w.heap.size w w' := by
  have hm := m50
  unfold wrapV
  go_enter Tryd.func14, Tryd.ntmps14
  go_wp2_with (go_at_call 94; refine (wrapped2 _).mono ?_; rintro e w' ⟨rfl, hb⟩)
  go_ret
  exact ⟨rfl, hb⟩
end Go.Proofs.YtlepjjcnlcnnfaaDoor.Book
