/- A judge: what is unlike. -/
import Derived.Test.YtpcmkifgfokdpaaJspec
namespace Go.Proofs.Ytpcmkifgfokdpaa
open Go.RowKit Go.My Go.My.Model Go.Deep
set_option maxRecDepth 100000 in
theorem is_35 (x y : Ran) (w : World) : Calls Try.prog 35 #[ranA x, ranA y] w (BoolLeft w (ranDiff x y)) := by
  have hb : ∀ o o', Below w.heap.size w ((w.alloc o).alloc o') := fun o o' => ((Below.refl _ w).alloc (Nat.le_refl _) o).alloc (by simp) o'
  obtain ⟨xn, xd⟩ := x
  obtain ⟨yn, yd⟩ := y
  unfold ranA ranDiff
  have HB := Lib.hid hb
  clear hb
  by_cases h1 : xn = yn
  · have e1 : (xn == yn) = true := by simpa using h1
    by_cases h2 : xd = yd
    · have e2 : (xd != yd) = false := by simpa using h2
      have HE : Hid ((decide (xn = yn) && !decide (xd = yd)) = false) := by show _ = _; simp [h1, h2]
      simp only
      rw [HE.out]
      clear h1 h2
      go_enter Try.func35, Try.ntmps35
      go_wp2_with fail
      go_ret
      exact ⟨rfl, HB.out _ _⟩
    · have e2 : (xd != yd) = true := by simpa using h2
      have HE : Hid ((decide (xn = yn) && !decide (xd = yd)) = true) := by show _ = _; simp [h1, h2]
      simp only
      rw [HE.out]
      clear h1 h2
      go_enter Try.func35, Try.ntmps35
      go_wp2_with fail
      go_ret
      exact ⟨rfl, HB.out _ _⟩
  · have e1 : (xn == yn) = false := by simpa using h1
    have HE : Hid ((decide (xn = yn) && !decide (xd = yd)) = false) := by show _ = _; simp [h1]
    simp only
    rw [HE.out]
    clear h1
    go_enter Try.func35, Try.ntmps35
    go_wp2_with fail
    go_ret
    exact ⟨rfl, HB.out _ _⟩
theorem empty_nil : (ByteArray.empty.toList == []) = true := by rw [Lib.toList_data]; rfl
theorem empty_of {s : ByteArray} (h : s.toList = []) : s = ByteArray.empty := by
  rw [Lib.toList_data] at h
  cases s with | mk a => cases a; simp at h; rw [h]; rfl
set_option maxRecDepth 100000 in
set_option maxHeartbeats 1600000 in
theorem is_37 (x y : Rec) (w : World) : Calls Try.prog 37 #[recA x, recA y] w (BoolLeft w (recDiff x y)) := by
  have hb : ∀ o o', Below w.heap.size w ((w.alloc o).alloc o') := fun o o' => ((Below.refl _ w).alloc (Nat.le_refl _) o).alloc (by simp) o'
  unfold recA
  have HB := Lib.hid hb
  clear hb
  cases e1 : (x.txn == y.txn) with
  | false =>
    have f1 : ¬ x.txn = y.txn := by simpa using e1
    have HE : Hid (recDiff x y = false) := by show _ = _; simp [recDiff, f1]
    rw [HE.out]
    clear HE
    go_enter Try.func37, Try.ntmps37
    go_wp2_with fail
    go_ret
    exact ⟨rfl, HB.out _ _⟩
  | true =>
    have f1 : x.txn = y.txn := by simpa using e1
    cases e2 : (min x.state y.state == 3) with
    | false =>
      have f2 : ¬ min x.state y.state = 3 := by simpa using e2
      have HE : Hid (recDiff x y = false) := by show _ = _; simp [recDiff, f2]
      rw [HE.out]
      clear HE
      clear f1 f2
      go_enter Try.func37, Try.ntmps37
      go_wp2_with fail
      go_ret
      exact ⟨rfl, HB.out _ _⟩
    | true =>
      have f2 : min x.state y.state = 3 := by simpa using e2
      cases e3 : (max x.state y.state == 4) with
      | false =>
        have f3 : ¬ max x.state y.state = 4 := by simpa using e3
        have HE : Hid (recDiff x y = false) := by show _ = _; simp [recDiff, f3]
        rw [HE.out]
        clear HE
        clear f1 f2 f3
        go_enter Try.func37, Try.ntmps37
        go_wp2_with fail
        go_ret
        exact ⟨rfl, HB.out _ _⟩
      | true =>
        have f3 : max x.state y.state = 4 := by simpa using e3
        have HE : Hid (recDiff x y = true) := by show _ = _; simp [recDiff, f1, f2, f3]
        rw [HE.out]
        clear HE
        clear f1 f2 f3
        go_enter Try.func37, Try.ntmps37
        go_wp2_with fail
        go_ret
        exact ⟨rfl, HB.out _ _⟩
set_option maxRecDepth 100000 in
set_option maxHeartbeats 1600000 in
theorem is_39 (x y : Hel) (w : World) : Calls Try.prog 39 #[helA x, helA y] w (BoolLeft w (helDiff x y)) := by
  have hb : ∀ o o', Below w.heap.size w ((w.alloc o).alloc o') := fun o o' => ((Below.refl _ w).alloc (Nat.le_refl _) o).alloc (by simp) o'
  unfold helA
  have HB := Lib.hid hb
  clear hb
  cases e1 : (x.epoch == y.epoch) with
  | false =>
    have f1 : ¬ x.epoch = y.epoch := by simpa using e1
    have HE : Hid (helDiff x y = false) := by show _ = _; simp [helDiff, f1]
    rw [HE.out]
    clear HE f1
    go_enter Try.func39, Try.ntmps39
    go_wp2_with fail
    go_ret
    exact ⟨rfl, HB.out _ _⟩
  | true =>
    have f1 : x.epoch = y.epoch := by simpa using e1
    cases e2 : x.frozen with
    | false =>
      cases e3 : y.frozen with
      | false =>
        cases e4 : (x.upto.toList == []) with
        | false =>
          have f4 : ¬ x.upto = ByteArray.empty := by intro h; rw [h, empty_nil] at e4; cases e4
          cases e5 : Op.bytesLess y.frm.toList x.upto.toList with
          | false =>
            have HE : Hid (helDiff x y = false) := by show _ = _; simp [helDiff, f1, e2, e3, f4, e5]
            rw [HE.out]
            clear HE f1 f4
            go_enter Try.func39, Try.ntmps39
            go_wp2_with fail
            go_ret
            exact ⟨rfl, HB.out _ _⟩
          | true =>
            cases e6 : (y.upto.toList == []) with
            | false =>
              have f6 : ¬ y.upto = ByteArray.empty := by intro h; rw [h, empty_nil] at e6; cases e6
              cases e7 : Op.bytesLess x.frm.toList y.upto.toList with
              | false =>
                have HE : Hid (helDiff x y = false) := by show _ = _; simp [helDiff, f1, e2, e3, f4, e5, f6, e7]
                rw [HE.out]
                clear HE f1 f4 f6
                go_enter Try.func39, Try.ntmps39
                go_wp2_with fail
                go_ret
                exact ⟨rfl, HB.out _ _⟩
              | true =>
                have HE : Hid (helDiff x y = true) := by show _ = _; simp [helDiff, f1, e2, e3, f4, e5, f6, e7]
                rw [HE.out]
                clear HE f1 f4 f6
                go_enter Try.func39, Try.ntmps39
                go_wp2_with fail
                go_ret
                exact ⟨rfl, HB.out _ _⟩
            | true =>
              have f6 : y.upto = ByteArray.empty := by exact empty_of (by simpa using e6)
              have HE : Hid (helDiff x y = true) := by show _ = _; simp [helDiff, f1, e2, e3, f4, e5, f6]
              rw [HE.out]
              clear HE f1 f4 f6
              go_enter Try.func39, Try.ntmps39
              go_wp2_with fail
              go_ret
              exact ⟨rfl, HB.out _ _⟩
        | true =>
          have f4 : x.upto = ByteArray.empty := by exact empty_of (by simpa using e4)
          cases e6 : (y.upto.toList == []) with
          | false =>
            have f6 : ¬ y.upto = ByteArray.empty := by intro h; rw [h, empty_nil] at e6; cases e6
            cases e7 : Op.bytesLess x.frm.toList y.upto.toList with
            | false =>
              have HE : Hid (helDiff x y = false) := by show _ = _; simp [helDiff, f1, e2, e3, f4, f6, e7]
              rw [HE.out]
              clear HE f1 f4 f6
              go_enter Try.func39, Try.ntmps39
              go_wp2_with fail
              go_ret
              exact ⟨rfl, HB.out _ _⟩
            | true =>
              have HE : Hid (helDiff x y = true) := by show _ = _; simp [helDiff, f1, e2, e3, f4, f6, e7]
              rw [HE.out]
              clear HE f1 f4 f6
              go_enter Try.func39, Try.ntmps39
              go_wp2_with fail
              go_ret
              exact ⟨rfl, HB.out _ _⟩
          | true =>
            have f6 : y.upto = ByteArray.empty := by exact empty_of (by simpa using e6)
            have HE : Hid (helDiff x y = true) := by show _ = _; simp [helDiff, f1, e2, e3, f4, f6]
            rw [HE.out]
            clear HE f1 f4 f6
            go_enter Try.func39, Try.ntmps39
            go_wp2_with fail
            go_ret
            exact ⟨rfl, HB.out _ _⟩
      | true =>
        have HE : Hid (helDiff x y = false) := by show _ = _; simp [helDiff, f1, e2, e3]
        rw [HE.out]
        clear HE f1
        go_enter Try.func39, Try.ntmps39
        go_wp2_with fail
        go_ret
        exact ⟨rfl, HB.out _ _⟩
    | true =>
      have HE : Hid (helDiff x y = false) := by show _ = _; simp [helDiff, f1, e2]
      rw [HE.out]
      clear HE f1
      go_enter Try.func39, Try.ntmps39
      go_wp2_with fail
      go_ret
      exact ⟨rfl, HB.out _ _⟩
end Go.Proofs.Ytpcmkifgfokdpaa
