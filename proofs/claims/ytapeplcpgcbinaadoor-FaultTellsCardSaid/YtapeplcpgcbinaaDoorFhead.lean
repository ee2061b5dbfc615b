/- fault: short contracts, and the question whose answer is fixed. -/
import Derived.Test.YtapeplcpgcbinaaDoorAs4
import Derived.Test.YtapeplcpgcbinaaDoorIsE
import Derived.Deep.QuietTactic
import Derived.BigQuiet
import Derived.WalkLawsBesides
import Derived.Lib.Strings
namespace Go.Proofs.YtapeplcpgcbinaaDoor
open Go.RowKit Go.My
set_option maxRecDepth 100000 in
theorem of_zero (w : World) : Calls Tryd.prog 10 #[.int .i64 0] w fun e w' => e = .returned .nilIface ∧ w' = w := by
  go_enter Tryd.func10, Tryd.ntmps10
  go_wp2
  go_ret
  exact ⟨rfl, rfl⟩
set_option maxRecDepth 100000 in
theorem of_of (n : Int) (hn : n ≠ 0) (w : World) : Calls Tryd.prog 10 #[.int .i64 n] w fun e w' => e = .returned (errOf n []) ∧ w' = w := by
  have h1 : (n == 0) = false := by simpa using hn
  clear hn
  go_enter Tryd.func10, Tryd.ntmps10
  go_wp2_with fail
  go_ret
  exact ⟨rfl, rfl⟩
set_option maxRecDepth 100000 in
theorem wrap_nil (s : ByteArray) (a : Int) (w : World) : Calls Tryd.prog 11 #[.nilIface, .string s, .int .i64 a] w fun e w' => e = .returned .nilIface ∧ w' = w := by
  go_enter Tryd.func11, Tryd.ntmps11
  go_wp2
  go_ret
  exact ⟨rfl, rfl⟩
set_option maxRecDepth 100000 in
theorem wrap_of (n : Int) (st : List StepT) (s : ByteArray) (a : Int) (w : World) : Calls Tryd.prog 11 #[errOf n st, .string s, .int .i64 a] w fun e w' => e = .returned (errOf n ((s, a) :: st)) ∧ w' = w := by
  rw [show errOf n ((s, a) :: st) = .iface 44 (.agg #[.string s, .int .i64 a, errOf n st]) from rfl]
  obtain ⟨T, v, hE⟩ := errOf_form n st
  rw [hE]
  clear hE
  go_enter Tryd.func11, Tryd.ntmps11
  go_wp2_with fail
  go_ret
  exact ⟨rfl, rfl⟩
set_option maxRecDepth 100000 in
theorem itoa7 (w : World) : Calls Tryd.prog 19 #[.int .i64 7] w fun e w' => e = .returned (.string ⟨#[55]⟩) ∧ w = w' := by
  go_enter Tryd.func19, Tryd.ntmps19
  go_wp2
  go_ret
  exact ⟨rfl, rfl⟩
set_option maxRecDepth 100000 in
theorem itoa21 (w : World) : Calls Tryd.prog 19 #[.int .i64 21] w fun e w' => e = .returned (.string ⟨#[50, 49]⟩) ∧ w = w' := by
  go_enter Tryd.func19, Tryd.ntmps19
  go_wp2
  go_ret
  exact ⟨rfl, rfl⟩
set_option maxRecDepth 100000 in
theorem errno21 (w : World) : Calls Tryd.prog 59 #[.int .i64 21] w fun e w' => e = .returned (.string ⟨#[99, 111, 104, 111, 114, 116, 58, 32, 101, 114, 114, 111, 114, 32, 50, 49]⟩) ∧ w = w' := by
  have hc := Lib.hid (itoa21 w)
  go_enter Tryd.func59, Tryd.ntmps59
  go_wp2_with (go_at_call 19; refine hc.out.mono ?_; rintro e w' ⟨rfl, rfl⟩)
  go_ret
  exact ⟨rfl, rfl⟩
/-- "text 7: cohort: error 21" -/
def text7 : ByteArray := ⟨#[116, 101, 120, 116, 32, 55, 58, 32, 99, 111, 104, 111, 114, 116, 58, 32, 101, 114, 114, 111, 114, 32, 50, 49]⟩
theorem mErr (e : Int) (w : World) : (method 228 22 (.int .i64 e) "Error").run Tryd.prog w = .ok (59, .int .i64 e) w := by kernel_rfl
theorem mWrap (a b c : Value) (w : World) : (method 228 44 (.agg #[a, b, c]) "Error").run Tryd.prog w = .ok (60, .agg #[a, b, c]) w := by kernel_rfl
set_option maxRecDepth 100000 in
theorem wrapped7 (w : World) : Calls Tryd.prog 60 #[.agg #[.string ⟨#[116, 101, 120, 116]⟩, .int .i64 7, .iface 22 (.int .i64 21)]] w fun e w' => e = .returned (.string text7) ∧ Below w.heap.size w w' := by
  have hm := mErr
  go_enter Tryd.func60, Tryd.ntmps60
  go_wp2_with fail
  refine wp_region_quiet_lit (by kernel_rfl) (by kernel_rfl) ?_
  repeat (quiet_step ((first | (go_at_call 19; exact Calls.quiet_of_same ((itoa7 _).mono fun _ _ h => ⟨h.1, h.2.symm⟩)) | (go_at_call 59; exact Calls.quiet_of_same ((errno21 _).mono fun _ _ h => ⟨h.1, h.2.symm⟩)))))
  refine wpQuiet_nil ?_
  rintro _ ⟨nq, rfl⟩
  go_wp2
  go_ret
  exact ⟨rfl, ⟨rfl, rfl, rfl, by simp, fun k hk => Below.heap_alloc _ _ _ hk⟩⟩
set_option maxRecDepth 100000 in
theorem text_7 (w : World) : Calls Tryd.prog 13 #[errOf 21 [(⟨#[116, 101, 120, 116]⟩, 7)]] w fun e w' => e = .returned (.string text7) ∧ Below w.heap.size w w' := by
  have hm := mWrap
  show Calls _ _ #[.iface 44 (.agg #[.string ⟨#[116, 101, 120, 116]⟩, .int .i64 7, .iface 22 (.int .i64 21)])] _ _
  go_enter Tryd.func13, Tryd.ntmps13
  go_wp2_with (go_at_call 60; refine (wrapped7 _).mono ?_; rintro e w' ⟨rfl, hb⟩)
  go_ret
  exact ⟨rfl, hb⟩
set_option maxRecDepth 100000 in
theorem text_nil (w : World) : Calls Tryd.prog 13 #[.nilIface] w fun e w' => e = .returned (.string ⟨#[]⟩) ∧ w = w' := by
  go_enter Tryd.func13, Tryd.ntmps13
  go_wp2
  go_ret
  exact ⟨rfl, rfl⟩
def st7 : List StepT := [(⟨#[116, 101, 120, 116]⟩, 7)]
set_option maxRecDepth 100000 in
set_option maxHeartbeats 1600000 in
theorem head_8 (w : World) (hg : TypeIs w) : Calls Tryd.prog 8 #[] w fun e w' => e = .returned (.bool true) ∧ Below w.heap.size w w' := by
  have HG := Lib.hid hg
  have HOF := Lib.hid (of_of 21 (by decide) w)
  have HW := Lib.hid (wrap_of 21 [] ⟨#[116, 101, 120, 116]⟩ 7 w)
  have HC := Lib.hid (code_of 21 st7 w hg)
  have HX : Hid (∀ W, Below w.heap.size w W → Calls Tryd.prog 13 #[errOf 21 st7] W fun e w' => e = .returned (.string text7) ∧ Below W.heap.size W w') := fun W _ => text_7 W
  have HT : Hid (∀ W, Below w.heap.size w W → Calls Tryd.prog 12 #[errOf 21 st7] W (TrailLeft W st7)) := fun W hW => trail_of 21 st7 W (HG.out.below HG.out.lt hW) (by simp [st7])
  have HZ : Hid (∀ W, Calls Tryd.prog 10 #[.int .i64 0] W fun e w' => e = .returned .nilIface ∧ w' = W) := of_zero
  have HN : Hid (∀ W, Calls Tryd.prog 14 #[.nilIface] W fun e w' => e = .returned (.int .i64 0) ∧ Below W.heap.size W w') := code_nil
  have ht7 : (text7.toList == [116, 101, 120, 116, 32, 55, 58, 32, 99, 111, 104, 111, 114, 116, 58, 32, 101, 114, 114, 111, 114, 32, 50, 49]) = true := by rw [Lib.toList_data]; decide
  have hw7 : errOf 21 (((⟨#[116, 101, 120, 116]⟩, 7) : StepT) :: []) = errOf 21 st7 := rfl
  rw [hw7] at HW
  obtain ⟨T, v, hE⟩ := errOf_form 21 st7
  obtain ⟨T0, v0, hE0⟩ := errOf_form 21 []
  rw [hE0] at HOF HW
  rw [hE] at HW HC HX HT
  clear hE hE0 hg hw7
  go_enter Tryd.func8, Tryd.ntmps8
  go_wp2_with fail
  refine HOF.out.mono ?_
  rintro e w' ⟨rfl, hw⟩
  obtain rfl : w = w' := hw.symm
  go_wp2_with fail
  refine HW.out.mono ?_
  rintro e w' ⟨rfl, hw⟩
  obtain rfl : w = w' := hw.symm
  go_wp2_with fail
  refine HC.out.mono ?_
  rintro e w1 ⟨rfl, hb1⟩
  have HB1 := Lib.hid hb1
  clear hb1
  go_wp2_with fail
  refine (HX.out _ HB1.out).mono ?_
  rintro e w2 ⟨rfl, hb2⟩
  have HB2 := Lib.hid (HB1.out.trans (hb2.mono HB1.out.size))
  clear hb2
  go_wp2_with fail
  refine (HT.out _ HB2.out).mono ?_
  rintro e w3 ⟨u, rfl, hrow, hb3⟩
  obtain ⟨ra, rc, rfl, _⟩ := row_form hrow
  have HB3 := Lib.hid (HB2.out.trans (hb3.mono HB2.out.size))
  rw [show st7.length = 1 from rfl]
  clear hrow hb3
  go_wp2_with fail
  refine (HZ.out _).mono ?_
  rintro e w' ⟨rfl, hw⟩
  obtain rfl : w3 = w' := hw.symm
  go_wp2_with fail
  refine (HN.out _).mono ?_
  rintro e w4 ⟨rfl, hb4⟩
  have HB4 := Lib.hid (HB3.out.trans (hb4.mono HB3.out.size))
  clear hb4
  go_wp2_with fail
  go_ret
  exact ⟨rfl, HB4.out⟩
end Go.Proofs.YtapeplcpgcbinaaDoor
