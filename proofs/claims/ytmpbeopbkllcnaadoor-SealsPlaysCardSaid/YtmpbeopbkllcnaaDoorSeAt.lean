/- Seals: the short functions. -/
import Derived.Test.YtmpbeopbkllcnaaDoorChecked
import Derived.Test.YtmpbeopbkllcnaaDoorGenw
import Derived.WalkSpells
import Derived.WalkLawsBesides
import Derived.Deep.QuietTactic
import Derived.BigQuiet
import Derived.StillTailTactics
import Derived.Lib.Hide
namespace Go.Proofs.YtmpbeopbkllcnaaDoor.Seals
open Go.RowKit Go.My

def grp (who : Int) : Int × Int := if who < 100 then (-1, -1) else if 8 ≤ (who - 100) / 16 ∨ 10 ≤ (who - 100) % 16 then (-1, -1) else ((who - 100) / 16, (who - 100) % 16)
def mem (g i : Int) : Int := if 0 ≤ g ∧ g < 8 ∧ 0 ≤ i ∧ i < 10 then 100 + g * 16 + i else -1
def cli (i : Int) : Int := if 0 ≤ i ∧ i < 16 then i else -1

set_option maxRecDepth 100000 in
theorem group_any (who : Int) (w : World) (hw : who ≤ 9223372036854775807) : Calls Tryd.prog 42 #[.int .i64 who] w fun e w' => e = .returned (.tuple #[.int .i64 (grp who).1, .int .i64 (grp who).2]) ∧ w = w' := by
  by_cases h1 : who < 100
  · have e : grp who = (-1, -1) := by simp [grp, h1]
    rw [e]
    clear hw e
    go_enter Tryd.func42, Tryd.ntmps42
    go_wp2
    go_ret2
    exact ⟨rfl, rfl⟩
  · by_cases h2 : 8 ≤ (who - 100) / 16
    · have e : grp who = (-1, -1) := by simp [grp, h1, h2]
      rw [e]
      clear e
      have h3 : (0 : Int) ≤ who - 100 := by omega
      go_enter Tryd.func42, Tryd.ntmps42
      go_wp2
      go_ret2
      exact ⟨rfl, rfl⟩
    · have h3 : (0 : Int) ≤ who - 100 := by omega
      by_cases h4 : 10 ≤ (who - 100) % 16
      · have e : grp who = (-1, -1) := by simp [grp, h1, h2, h4]
        rw [e]
        clear e
        go_enter Tryd.func42, Tryd.ntmps42
        go_wp2
        go_ret2
        exact ⟨rfl, rfl⟩
      · have e : grp who = ((who - 100) / 16, (who - 100) % 16) := by simp [grp, h1, h2, h4]
        rw [e]
        clear e
        go_enter Tryd.func42, Tryd.ntmps42
        go_wp2
        go_ret2
        exact ⟨rfl, rfl⟩

set_option maxRecDepth 100000 in
theorem member_any (g i : Int) (w : World) : Calls Tryd.prog 43 #[.int .i64 g, .int .i64 i] w fun e w' => e = .returned (.int .i64 (mem g i)) ∧ w = w' := by
  by_cases h1 : g < 0
  · have e : mem g i = -1 := by unfold mem; rw [if_neg (by omega)]
    rw [e]
    clear e
    go_enter Tryd.func43, Tryd.ntmps43
    go_wp2
    go_ret
    exact ⟨rfl, rfl⟩
  · by_cases h2 : 8 ≤ g
    · have e : mem g i = -1 := by unfold mem; rw [if_neg (by omega)]
      rw [e]
      clear e
      go_enter Tryd.func43, Tryd.ntmps43
      go_wp2
      go_ret
      exact ⟨rfl, rfl⟩
    · by_cases h3 : i < 0
      · have e : mem g i = -1 := by unfold mem; rw [if_neg (by omega)]
        rw [e]
        clear e
        go_enter Tryd.func43, Tryd.ntmps43
        go_wp2
        go_ret
        exact ⟨rfl, rfl⟩
      · by_cases h4 : 10 ≤ i
        · have e : mem g i = -1 := by unfold mem; rw [if_neg (by omega)]
          rw [e]
          clear e
          go_enter Tryd.func43, Tryd.ntmps43
          go_wp2
          go_ret
          exact ⟨rfl, rfl⟩
        · have e : mem g i = 100 + g * 16 + i := by unfold mem; rw [if_pos (by omega)]
          rw [e]
          clear e
          go_enter Tryd.func43, Tryd.ntmps43
          go_wp2
          go_ret
          exact ⟨rfl, rfl⟩

set_option maxRecDepth 100000 in
theorem client_any (i : Int) (w : World) : Calls Tryd.prog 45 #[.int .i64 i] w fun e w' => e = .returned (.int .i64 (cli i)) ∧ w = w' := by
  by_cases h1 : i < 0
  · have e : cli i = -1 := by unfold cli; rw [if_neg (by omega)]
    rw [e]
    clear e
    go_enter Tryd.func45, Tryd.ntmps45
    go_wp2
    go_ret
    exact ⟨rfl, rfl⟩
  · by_cases h2 : 16 ≤ i
    · have e : cli i = -1 := by unfold cli; rw [if_neg (by omega)]
      rw [e]
      clear e
      go_enter Tryd.func45, Tryd.ntmps45
      go_wp2
      go_ret
      exact ⟨rfl, rfl⟩
    · have e : cli i = i := by unfold cli; rw [if_pos (by omega)]
      rw [e]
      clear e
      go_enter Tryd.func45, Tryd.ntmps45
      go_wp2
      go_ret
      exact ⟨rfl, rfl⟩

/-! ### errors -/
def wrapV (name : ByteArray) (at_ : Int) (e : Int) : Value := .iface 105 (.agg #[.string name, .int .i64 at_, .iface 35 (.int .i64 e)])
set_option maxRecDepth 100000 in
theorem of_any (e : Int) (w : World) (he : (e == 0) = false) : Calls Tryd.prog 47 #[.int .i64 e] w fun r w' => r = .returned (.iface 35 (.int .i64 e)) ∧ w = w' := by
  go_enter Tryd.func47, Tryd.ntmps47
  go_wp2
  go_ret
  exact ⟨rfl, rfl⟩
set_option maxRecDepth 100000 in
theorem wrap_any (e at_ : Int) (name : ByteArray) (w : World) : Calls Tryd.prog 46 #[.iface 35 (.int .i64 e), .string name, .int .i64 at_] w fun r w' => r = .returned (wrapV name at_ e) ∧ w = w' := by
  go_enter Tryd.func46, Tryd.ntmps46
  go_wp2
  go_ret
  exact ⟨rfl, rfl⟩

set_option maxRecDepth 100000 in
theorem itoa99 (w : World) : Calls Tryd.prog 104 #[.int .i64 99] w fun e w' => e = .returned (.string ⟨#[57, 57]⟩) ∧ w = w' := by
  go_enter Tryd.func104, Tryd.ntmps104
  go_wp2
  go_ret
  exact ⟨rfl, rfl⟩
set_option maxRecDepth 100000 in
theorem itoa1 (w : World) : Calls Tryd.prog 104 #[.int .i64 1] w fun e w' => e = .returned (.string ⟨#[49]⟩) ∧ w = w' := by
  go_enter Tryd.func104, Tryd.ntmps104
  go_wp2
  go_ret
  exact ⟨rfl, rfl⟩
set_option maxRecDepth 100000 in
theorem errno1 (w : World) : Calls Tryd.prog 103 #[.int .i64 1] w fun e w' => e = .returned (.string ⟨#[99, 111, 104, 111, 114, 116, 58, 32, 101, 114, 114, 111, 114, 32, 49]⟩) ∧ w = w' := by
  have hc := Lib.hid (itoa1 w)
  go_enter Tryd.func103, Tryd.ntmps103
  go_wp2_with (go_at_call 104; refine hc.out.mono ?_; rintro e w' ⟨rfl, rfl⟩)
  go_ret
  exact ⟨rfl, rfl⟩
theorem m47 (e : Int) (w : World) : (method 310 35 (.int .i64 e) "Error").run Tryd.prog w = .ok (103, .int .i64 e) w := by kernel_rfl
theorem m57 (v : Value) (w : World) : (method 310 105 v "Error").run Tryd.prog w = .ok (117, v) w := by kernel_rfl
/-- "seals 99: cohort: error 1" -/
def seals99 : ByteArray := ⟨#[115, 101, 97, 108, 115, 32, 57, 57, 58, 32, 99, 111, 104, 111, 114, 116, 58, 32, 101, 114, 114, 111, 114, 32, 49]⟩
set_option maxRecDepth 100000 in
theorem wrapped99 (w : World) : Calls Tryd.prog 117 #[.agg #[.string ⟨#[115, 101, 97, 108, 115]⟩, .int .i64 99, .iface 35 (.int .i64 1)]] w fun e w' => e = .returned (.string seals99) ∧ Below w.heap.size w w' := by
  have hm := m47
  go_enter Tryd.func117, Tryd.ntmps117
  go_wp2_with fail
  refine wp_region_quiet_lit (by kernel_rfl) (by kernel_rfl) ?_
  repeat (quiet_step ((first | (go_at_call 104; exact Calls.quiet_of_same ((itoa99 _).mono fun _ _ h => ⟨h.1, h.2.symm⟩)) | (go_at_call 103; exact Calls.quiet_of_same ((errno1 _).mono fun _ _ h => ⟨h.1, h.2.symm⟩)))))
  refine wpQuiet_nil ?_
  rintro _ ⟨nq, rfl⟩
  go_wp2
  go_ret
  exact ⟨rfl, ⟨rfl, rfl, rfl, by simp, fun k hk => Below.heap_alloc _ _ _ hk⟩⟩
set_option maxRecDepth 100000 in
theorem text99 (w : World) : Calls Tryd.prog 44 #[wrapV ⟨#[115, 101, 97, 108, 115]⟩ 99 1] w fun e w' => e = .returned (.string seals99) ∧ Below w.heap.size w w' := by
  have hm := m57
  unfold wrapV
  go_enter Tryd.func44, Tryd.ntmps44
  go_wp2_with (go_at_call 117; refine (wrapped99 _).mono ?_; rintro e w' ⟨rfl, hb⟩)
  go_ret
  exact ⟨rfl, hb⟩
end Go.Proofs.YtmpbeopbkllcnaaDoor.Seals
