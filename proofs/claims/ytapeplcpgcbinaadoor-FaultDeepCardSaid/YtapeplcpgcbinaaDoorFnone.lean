/- fault: no error stays none; one that came through so many steps has them all. -/
import Derived.Test.YtapeplcpgcbinaaDoorFlaws
namespace Go.Proofs.YtapeplcpgcbinaaDoor
open Go.RowKit Go.My
set_option maxRecDepth 100000 in
set_option maxHeartbeats 3200000 in
theorem none_any (a : Option Addr) (n cap : Nat) (l : List StepT) (f : Int) (w : World) (hg : TypeIs w) (hl : StepsAt w a l) (hn : n = l.length) (hn9 : (n : Int) ≤ 70368744177664) :
    Calls Tryd.prog 6 #[.slice a n cap, .int .i64 f] w fun r w' => r = .returned (.bool true) ∧ Below w.heap.size w w' := by
  have HH := Lib.hid (head_8 w hg)
  have HL := Lib.hid hl
  have HN := Lib.hid hn
  have HGR : Hid (∀ W, Below w.heap.size w W → Calls Tryd.prog 9 #[.slice a n cap] W (GreatF W n)) := fun W hW => great_9 a cap n l W (HL.out.below hW) HN.out hn9
  have HO : Hid (∀ W, Calls Tryd.prog 10 #[.int .i64 0] W fun r w' => r = .returned .nilIface ∧ w' = W) := of_zero
  clear hg hl hn
  go_enter Tryd.func6, Tryd.ntmps6
  go_wp2_with fail
  refine HH.out.mono ?_
  rintro r w1 ⟨rfl, hb1⟩
  have HB1 := Lib.hid hb1
  clear hb1
  go_wp2_with fail
  refine (HGR.out _ HB1.out).mono ?_
  rintro r w' ⟨g, rfl, hw, _⟩
  obtain rfl : w1 = w' := hw.symm
  cases g with
  | true =>
    go_wp2_with fail
    go_ret
    exact ⟨rfl, HB1.out⟩
  | false =>
    go_wp2_with fail
    refine (HO.out _).mono ?_
    rintro r w' ⟨rfl, hw⟩
    obtain rfl : w1 = w' := hw.symm
    have P0 : Hid (Below w.heap.size w w1) := HB1.out
    go_wp2_with fail
    go_loopw [6, 7] (fun x y wr => x = .nilIface ∧ ∃ m : Nat, y = .int .i64 m ∧ m ≤ n ∧ Hid (Below w.heap.size w wr)) (fun _ y _ => n - (intOf y).toNat)
    case atStart => exact ⟨rfl, 0, rfl, by omega, P0⟩
    case round =>
      clear P0
      obtain ⟨rfl, m, rfl, hm, HB⟩ := hrel
      by_cases hlt : m < n
      · obtain ⟨s, hs⟩ : ∃ s, l[m]? = some s := ⟨_, List.getElem?_eq_getElem (by rw [← HN.out]; exact hlt)⟩
        obtain ⟨gb, off, rfl, d0, d1, _⟩ := (HL.out.below HB.out).cells hs
        have hlt1 : (m : Int) < (n : Int) := by omega
        have hm0 : (0 : Int) ≤ (m : Int) := by omega
        have HW : Hid (∀ W, Calls Tryd.prog 11 #[.nilIface, .string s.1, .int .i64 s.2] W fun r w' => r = .returned .nilIface ∧ w' = W) := fun W => wrap_nil _ _ W
        have HND : Hid (∀ nq, Below w.heap.size w (wr.drewN nq)) := fun nq => HB.out.trans ⟨rfl, rfl, rfl, by simp, fun _ _ => rfl⟩
        clear hs
        go_wp2_with fail
        go_quiet ((go_at_call 11; exact Calls.quiet_of_same (HW.out _)))
        go_wp2_with fail
        exact ⟨⟨rfl, m + 1, by simp, by omega, HND.out _⟩, by simp [intOf]; omega⟩
      · obtain rfl : m = n := by omega
        have HT : Hid (∀ W, Calls Tryd.prog 12 #[.nilIface] W (TrailLeft W [])) := trail_nil
        have HX : Hid (∀ W, Calls Tryd.prog 13 #[.nilIface] W fun e w' => e = .returned (.string ⟨#[]⟩) ∧ W = w') := text_nil
        have HC : Hid (∀ W, Calls Tryd.prog 14 #[.nilIface] W fun e w' => e = .returned (.int .i64 0) ∧ Below W.heap.size W w') := code_nil
        have HI : Hid (∀ W, Calls Tryd.prog 17 #[.nilIface, .int .i64 f] W (BoolIs W (f == 0))) := is_nil f
        unfold BoolIs at HI
        obtain ⟨b, hb⟩ : ∃ b, (f == 0) = b := ⟨_, rfl⟩
        rw [hb] at HI
        have hbb : (b == b) = true := by simp
        have hes : ((⟨#[]⟩ : ByteArray).toList == []) = true := by rw [Lib.toList_data]; rfl
        go_wp2_with fail
        refine (HT.out _).mono ?_
        rintro r w2 ⟨u, rfl, hrow, hb2⟩
        obtain ⟨ra, rc, rfl, _⟩ := row_form hrow
        have HB2 := Lib.hid (HB.out.trans (hb2.mono HB.out.size))
        rw [show ([] : List StepT).length = 0 from rfl]
        clear hrow hb2
        go_wp2_with fail
        refine (HX.out _).mono ?_
        rintro r w' ⟨rfl, rfl⟩
        go_wp2_with fail
        refine (HC.out _).mono ?_
        rintro r w3 ⟨rfl, hb3⟩
        have HB3 := Lib.hid (HB2.out.trans (hb3.mono HB2.out.size))
        clear hb3
        go_wp2_with fail
        refine (HI.out _).mono ?_
        rintro r w4 ⟨rfl, hb4⟩
        have HB4 := Lib.hid (HB3.out.trans (hb4.mono HB3.out.size))
        clear hb4
        go_wp2_with fail
        go_ret
        exact ⟨rfl, HB4.out⟩
/-- the steps of so many rounds, the last one first -/
def downS (s : ByteArray) : Nat → List StepT
  | 0 => []
  | k + 1 => (s, (k : Int)) :: downS s k
theorem downS_len (s : ByteArray) : ∀ k, (downS s k).length = k
  | 0 => rfl
  | k + 1 => by rw [downS, List.length_cons, downS_len s k]
theorem downS_at (s : ByteArray) : ∀ (k i : Nat), i < k → (downS s k)[i]? = some (s, ((k - 1 - i : Nat) : Int))
  | 0, i, h => by omega
  | k + 1, 0, _ => by simp [downS]
  | k + 1, i + 1, h => by
    rw [downS, List.getElem?_cons_succ, downS_at s k i (by omega)]
    congr 3
    omega
set_option maxRecDepth 100000 in
set_option maxHeartbeats 3200000 in
theorem deep_any (e n : Int) (s : ByteArray) (w : World) (hg : TypeIs w) (hn0 : 0 ≤ n) (hn1 : n ≤ 255) (hs9 : s.size ≤ maxLen) :
    Calls Tryd.prog 7 #[.int .i64 e, .int .u8 n, .string s] w fun r w' => r = .returned (.bool true) ∧ Below w.heap.size w w' := by
  have HG := Lib.hid hg
  have HH := Lib.hid (head_8 w hg)
  have hsz : (s.size : Int) ≤ 9223372036854775807 := by unfold maxLen at hs9; omega
  clear hg hs9
  go_enter Tryd.func7, Tryd.ntmps7
  go_wp2_with fail
  refine HH.out.mono ?_
  rintro r w1 ⟨rfl, hb1⟩
  have HB1 := Lib.hid hb1
  clear hb1
  by_cases he : e = 0
  · subst he
    go_wp2_with fail
    go_ret
    exact ⟨rfl, HB1.out⟩
  have heb : (e == 0) = false := by simpa using he
  by_cases hs1 : (100 : Int) < (s.size : Int)
  · have hd : decide (100 < s.size) = true := decide_eq_true (by omega)
    clear he
    go_wp2_with fail
    go_ret
    exact ⟨rfl, HB1.out⟩
  have hd : decide (100 < s.size) = false := decide_eq_false (by omega)
  have HNE := Lib.hid he
  have HO : Hid (∀ W, Calls Tryd.prog 10 #[.int .i64 e] W fun r w' => r = .returned (errOf e []) ∧ w' = W) := of_of e HNE.out
  clear he
  go_wp2_with fail
  refine (HO.out _).mono ?_
  rintro r w' ⟨rfl, hw⟩
  obtain rfl : w1 = w' := hw.symm
  go_wp2_with fail
  go_loopw [8, 9] (fun x y wr => wr = w1 ∧ ∃ m : Nat, x = errOf e (downS s m) ∧ y = .int .i64 m ∧ (m : Int) ≤ n) (fun _ y _ => n.toNat - (intOf y).toNat)
  case atStart => exact ⟨rfl, 0, rfl, rfl, by omega⟩
  case round =>
    obtain ⟨ew, m, rfl, rfl, hm⟩ := hrel
    obtain rfl : w1 = wr := ew.symm
    by_cases hlt : (m : Int) < n
    · have HW : Hid (∀ W, Calls Tryd.prog 11 #[errOf e (downS s m), .string s, .int .i64 m] W fun r w' => r = .returned (errOf e (downS s (m + 1))) ∧ w' = W) := fun W => wrap_of e (downS s m) s m W
      generalize errOf e (downS s m) = v at HW ⊢
      go_wp2_with fail
      refine (HW.out _).mono ?_
      rintro r w' ⟨rfl, hw⟩
      obtain rfl : w1 = w' := hw.symm
      go_wp2_with fail
      exact ⟨⟨trivial, m + 1, rfl, by simp, by omega⟩, by simp [intOf]; omega⟩
    · obtain rfl : (m : Int) = n := by omega
      have hm8 : m ≤ 255 := by omega
      have HT : Hid (Calls Tryd.prog 12 #[errOf e (downS s m)] w1 (TrailLeft w1 (downS s m))) := trail_of e (downS s m) w1 (HG.out.below HG.out.lt HB1.out) (by rw [downS_len]; omega)
      have HI : Hid (∀ W, Calls Tryd.prog 17 #[errOf e (downS s m), .int .i64 e] W (BoolIs W true)) := fun W => by
        have h := is_of e e (downS s m) W HNE.out
        rw [show (e == e) = true by simp] at h
        exact h
      unfold BoolIs at HI
      generalize errOf e (downS s m) = v at HT HI ⊢
      go_wp2_with fail
      refine HT.out.mono ?_
      rintro r w2 ⟨u, rfl, hrow, hb2⟩
      obtain ⟨ra, rc, rfl, _⟩ := row_form hrow
      have HB2 := Lib.hid (HB1.out.trans (hb2.mono HB1.out.size))
      have HROW := Lib.hid hrow
      rw [downS_len] at HROW ⊢
      have P0 : Hid (Below w2.heap.size w2 w2) := Below.refl _ _
      clear hrow hb2
      go_wp2_with fail
      go_loopw [11] (fun y wr => ∃ i : Nat, y = .int .i64 i ∧ i ≤ m ∧ wr = w2) (fun y _ => m - (intOf y).toNat)
      case atStart => exact ⟨0, rfl, by omega, rfl⟩
      case round =>
        obtain ⟨i, rfl, hi, ew⟩ := hrel
        obtain rfl : w2 = wr := ew.symm
        by_cases hlt2 : i < m
        · obtain ⟨gb, rfl, _, hgl⟩ := row_pos HROW.out (by omega)
          have d0 : w2.cell? ⟨gb, i * 2, none⟩ = some (.string s) := by
            have := row_cell HROW.out stepL_len (downS_len s m).symm (downS_at s m i hlt2) (j := 0) (by omega)
            simpa [stepL] using this
          have d1 : w2.cell? ⟨gb, i * 2 + 1, none⟩ = some (.int .i64 ((m - 1 - i : Nat) : Int)) := by
            have := row_cell HROW.out stepL_len (downS_len s m).symm (downS_at s m i hlt2) (j := 1) (by omega)
            simpa [stepL] using this
          have hi0 : (0 : Int) ≤ (i : Int) := by omega
          have hi1 : (i : Int) < (m : Int) := by omega
          have hss : (s.toList == s.toList) = true := by simp
          obtain ⟨q, hq⟩ : ∃ q : Nat, q = m - 1 - i := ⟨_, rfl⟩
          rw [← hq] at d1
          have hsub : (m : Int) - 1 - (i : Int) = (q : Int) := by omega
          have hq9 : (q : Int) ≤ 255 := by omega
          have hqq : ((q : Int) != (q : Int)) = false := by simp
          clear hq
          go_wp2_with fail
          exact ⟨⟨i + 1, by simp, by omega, trivial⟩, by simp [intOf]; omega⟩
        · obtain rfl : i = m := by omega
          go_wp2_with fail
          refine (HI.out _).mono ?_
          rintro r w4 ⟨rfl, hb4⟩
          have HB4 := Lib.hid (HB2.out.trans (hb4.mono HB2.out.size))
          clear hb4
          go_wp2_with fail
          go_ret
          exact ⟨rfl, HB4.out⟩
end Go.Proofs.YtapeplcpgcbinaaDoor
