/- fault: a number is in an error just if it is its own. -/
import Derived.Test.YtapeplcpgcbinaaDoorFhead
namespace Go.Proofs.YtapeplcpgcbinaaDoor
open Go.RowKit Go.My
/-- the steps that came in, as they lie -/
def StepsAt (w : World) (a : Option Addr) (l : List StepT) : Prop := ListAt w a 2 (fun _ cs (s : StepT) => cs = stepL s ∧ s.1.size ≤ maxLen) l
theorem StepsAt.below {w w' : World} {a : Option Addr} {l : List StepT} (h : StepsAt w a l) (hb : Below w.heap.size w w') : StepsAt w' a l := ListAt.below h (fun _ _ h => h) hb
theorem StepsAt.cells {w : World} {a : Option Addr} {l : List StepT} (h : StepsAt w a l) {i : Nat} {s : StepT} (hi : l[i]? = some s) : ∃ g o, a = some ⟨g, o, none⟩ ∧ w.cell? ⟨g, o + i * 2, none⟩ = some (.string s.1) ∧ w.cell? ⟨g, o + i * 2 + 1, none⟩ = some (.int .i64 s.2) ∧ s.1.size ≤ maxLen := by
  obtain ⟨g, o, cs, h1, _, _, h3, rfl, h4⟩ := h i s hi
  exact ⟨g, o, h1, h3 0 _ rfl, h3 1 _ rfl, h4⟩
/-- an error of a number, or none -/
def errZ (e : Int) (st : List StepT) : Value := if e = 0 then .nilIface else errOf e st
theorem wrap_z (e : Int) (st : List StepT) (s : ByteArray) (a : Int) (w : World) : Calls Tryd.prog 11 #[errZ e st, .string s, .int .i64 a] w fun r w' => r = .returned (errZ e ((s, a) :: st)) ∧ w' = w := by
  unfold errZ
  by_cases h : e = 0
  · simp only [if_pos h]; exact wrap_nil s a w
  · simp only [if_neg h]; exact wrap_of e st s a w
theorem of_z (e : Int) (w : World) : Calls Tryd.prog 10 #[.int .i64 e] w fun r w' => r = .returned (errZ e []) ∧ w' = w := by
  unfold errZ
  by_cases h : e = 0
  · simp only [if_pos h]; rw [h]; exact of_zero w
  · simp only [if_neg h]; exact of_of e h w
theorem is_z (e f : Int) (st : List StepT) (w : World) : Calls Tryd.prog 17 #[errZ e st, .int .i64 f] w (BoolIs w (e == f)) := by
  unfold errZ
  by_cases h : e = 0
  · simp only [if_pos h]
    have := is_nil f w
    have hb : (f == 0) = (e == f) := by rw [h, Bool.eq_iff_iff, beq_iff_eq, beq_iff_eq]; exact ⟨Eq.symm, Eq.symm⟩
    rw [hb] at this
    exact this
  · simp only [if_neg h]; exact is_of e f st w h
def GreatF (w : World) (n : Nat) (e : Ending) (w' : World) : Prop := ∃ g : Bool, e = .returned (.bool g) ∧ w' = w ∧ (g = false → n ≤ 2000)
set_option maxRecDepth 100000 in
set_option maxHeartbeats 1600000 in
theorem great_9 (a : Option Addr) (cap n : Nat) (l : List StepT) (w : World) (h : StepsAt w a l) (hn : n = l.length) (hg : (n : Int) ≤ 70368744177664) : Calls Tryd.prog 9 #[.slice a n cap] w (GreatF w n) := by
  have H := Lib.hid h
  have HN := Lib.hid hn
  clear h hn
  go_enter Tryd.func9, Tryd.ntmps9
  go_wp2_with fail
  go_loopw [3, 4] (fun x y wr => wr = w ∧ ∃ c m : Nat, x = .int .i64 c ∧ y = .int .i64 m ∧ c ≤ 40010 ∧ 10 * m ≤ c ∧ m ≤ n) (fun _ y _ => n - (intOf y).toNat)
  case atStart => exact ⟨rfl, 0, 0, rfl, rfl, by omega, by omega, by omega⟩
  case round =>
    obtain ⟨ew, c, m, rfl, rfl, hc, hcm, hm⟩ := hrel
    obtain rfl : w = wr := ew.symm
    have hc9 : (c : Int) ≤ 40010 := by omega
    by_cases hlt : m < n
    · have hlt1 : (m : Int) < (n : Int) := by omega
      have hm0 : (0 : Int) ≤ (m : Int) := by omega
      by_cases hcc : (c : Int) < 20000
      · obtain ⟨o, ho⟩ : ∃ o, l[m]? = some o := ⟨_, List.getElem?_eq_getElem (by rw [← HN.out]; exact hlt)⟩
        obtain ⟨g, off, rfl, d0, d1, hsz⟩ := H.out.cells ho
        generalize hq0 : o.1 = s at d0 hsz
        obtain ⟨q, hq1⟩ : ∃ q, q = s.size := ⟨_, rfl⟩
        have HQ := Lib.hid hq1
        have hq9 : (s.size : Int) ≤ 9223372036854775807 := by unfold maxLen at hsz; omega
        clear ho hsz hq0 d1 hq1
        by_cases hq : (s.size : Int) < 20000
        · have hmin : min (s.size : Int) 20000 = s.size := by omega
          go_wp2_with fail
          exact ⟨⟨trivial, c + 10 + s.size, m + 1, by simp, by simp, by omega, by omega, by omega⟩, by simp [intOf]; omega⟩
        · have hmin : min (s.size : Int) 20000 = 20000 := by omega
          go_wp2_with fail
          exact ⟨⟨trivial, c + 10 + 20000, m + 1, by simp, by simp, by omega, by omega, by omega⟩, by simp [intOf]; omega⟩
      · have hd : decide (20000 ≤ c) = true := decide_eq_true (by omega)
        go_wp2_with fail
        go_ret
        exact ⟨_, rfl, rfl, fun h => by cases h⟩
    · obtain rfl : m = n := by omega
      go_wp2_with fail
      go_ret
      exact ⟨_, rfl, rfl, fun h => by simp at h; omega⟩
theorem take_rev {l : List StepT} {m : Nat} {s : StepT} (h : l[m]? = some s) : (l.take (m + 1)).reverse = s :: (l.take m).reverse := by
  rw [List.take_add_one, h]
  simp
set_option maxRecDepth 100000 in
set_option maxHeartbeats 3200000 in
theorem is_any (e f : Int) (a : Option Addr) (n cap : Nat) (l : List StepT) (w : World) (hg : TypeIs w) (hl : StepsAt w a l) (hn : n = l.length) (hn9 : (n : Int) ≤ 70368744177664) :
    Calls Tryd.prog 5 #[.int .i64 e, .int .i64 f, .slice a n cap] w fun r w' => r = .returned (.bool true) ∧ Below w.heap.size w w' := by
  have HH := Lib.hid (head_8 w hg)
  have HL := Lib.hid hl
  have HN := Lib.hid hn
  have HGR : Hid (∀ W, Below w.heap.size w W → Calls Tryd.prog 9 #[.slice a n cap] W (GreatF W n)) := fun W hW => great_9 a cap n l W (HL.out.below hW) HN.out hn9
  have HO : Hid (∀ W, Calls Tryd.prog 10 #[.int .i64 e] W fun r w' => r = .returned (errZ e []) ∧ w' = W) := of_z e
  clear hg hl hn
  go_enter Tryd.func5, Tryd.ntmps5
  go_wp2_with fail
  refine HH.out.mono ?_
  rintro r w1 ⟨rfl, hb1⟩
  have HB1 := Lib.hid hb1
  clear hb1
  go_wp2_with fail
  refine (HGR.out _ HB1.out).mono ?_
  rintro r w' ⟨g, rfl, hw, _⟩
  obtain rfl : w1 = w' := hw.symm
  cases g with
  | true =>
    go_wp2_with fail
    go_ret
    exact ⟨rfl, HB1.out⟩
  | false =>
    go_wp2_with fail
    refine (HO.out _).mono ?_
    rintro r w' ⟨rfl, hw⟩
    obtain rfl : w1 = w' := hw.symm
    have P0 : Hid (Below w.heap.size w w1) := HB1.out
    go_wp2_with fail
    go_loopw [8, 9] (fun x y wr => ∃ m : Nat, x = errZ e (l.take m).reverse ∧ y = .int .i64 m ∧ m ≤ n ∧ Hid (Below w.heap.size w wr)) (fun _ y _ => n - (intOf y).toNat)
    case atStart => exact ⟨0, rfl, rfl, by omega, P0⟩
    case round =>
      clear P0
      obtain ⟨m, rfl, rfl, hm, HB⟩ := hrel
      by_cases hlt : m < n
      · obtain ⟨s, hs⟩ : ∃ s, l[m]? = some s := ⟨_, List.getElem?_eq_getElem (by rw [← HN.out]; exact hlt)⟩
        obtain ⟨gb, off, rfl, d0, d1, _⟩ := (HL.out.below HB.out).cells hs
        have hlt1 : (m : Int) < (n : Int) := by omega
        have hm0 : (0 : Int) ≤ (m : Int) := by omega
        have HR := Lib.hid (take_rev hs)
        have HW : Hid (∀ W, Calls Tryd.prog 11 #[errZ e (l.take m).reverse, .string s.1, .int .i64 s.2] W fun r w' => r = .returned (errZ e (l.take (m + 1)).reverse) ∧ w' = W) := fun W => by rw [HR.out]; exact wrap_z e _ _ _ W
        have HND : Hid (∀ nq, Below w.heap.size w (wr.drewN nq)) := fun nq => HB.out.trans ⟨rfl, rfl, rfl, by simp, fun _ _ => rfl⟩
        generalize errZ e (l.take m).reverse = v at HW ⊢
        clear hs
        go_wp2_with fail
        go_quiet ((go_at_call 11; exact Calls.quiet_of_same (HW.out _)))
        go_wp2_with fail
        exact ⟨⟨m + 1, rfl, by simp, by omega, HND.out _⟩, by simp [intOf]; omega⟩
      · obtain rfl : m = n := by omega
        have HI1 : Hid (∀ W, Calls Tryd.prog 17 #[errZ e (l.take m).reverse, .int .i64 f] W (BoolIs W (e == f))) := fun W => is_z e f _ W
        have HI2 : Hid (∀ W, Calls Tryd.prog 17 #[errZ e (l.take m).reverse, .int .i64 e] W (BoolIs W true)) := fun W => by
          have h := is_z e e (l.take m).reverse W
          rw [show (e == e) = true by simp] at h
          exact h
        have HI3 : Hid (∀ W, Calls Tryd.prog 11 #[errZ e (l.take m).reverse, .string ⟨#[120]⟩, .int .i64 1] W fun r w' => r = .returned (errZ e ((⟨#[120]⟩, 1) :: (l.take m).reverse)) ∧ w' = W) := fun W => wrap_z e _ _ _ W
        have HI4 : Hid (∀ W, Calls Tryd.prog 17 #[errZ e ((⟨#[120]⟩, 1) :: (l.take m).reverse), .int .i64 f] W (BoolIs W (e == f))) := fun W => is_z e f _ W
        generalize errZ e (l.take m).reverse = v at HI1 HI2 HI3 ⊢
        generalize errZ e ((⟨#[120]⟩, 1) :: (l.take m).reverse) = v2 at HI3 HI4
        unfold BoolIs at HI1 HI2 HI4
        cases hb : (e == f) with
        | true =>
          rw [hb] at HI1 HI4
          go_wp2_with fail
          refine (HI1.out _).mono ?_
          rintro r w2 ⟨rfl, hb2⟩
          have HB2 := Lib.hid (HB.out.trans (hb2.mono HB.out.size))
          clear hb2
          go_wp2_with fail
          refine (HI2.out _).mono ?_
          rintro r w3 ⟨rfl, hb3⟩
          have HB3 := Lib.hid (HB2.out.trans (hb3.mono HB2.out.size))
          clear hb3
          go_wp2_with fail
          refine (HI3.out _).mono ?_
          rintro r w' ⟨rfl, hw⟩
          obtain rfl : w3 = w' := hw.symm
          go_wp2_with fail
          refine (HI4.out _).mono ?_
          rintro r w4 ⟨rfl, hb4⟩
          have HB4 := Lib.hid (HB3.out.trans (hb4.mono HB3.out.size))
          clear hb4
          go_wp2_with fail
          go_ret
          exact ⟨rfl, HB4.out⟩
        | false =>
          rw [hb] at HI1 HI4
          go_wp2_with fail
          refine (HI1.out _).mono ?_
          rintro r w2 ⟨rfl, hb2⟩
          have HB2 := Lib.hid (HB.out.trans (hb2.mono HB.out.size))
          clear hb2
          go_wp2_with fail
          refine (HI2.out _).mono ?_
          rintro r w3 ⟨rfl, hb3⟩
          have HB3 := Lib.hid (HB2.out.trans (hb3.mono HB2.out.size))
          clear hb3
          go_wp2_with fail
          refine (HI3.out _).mono ?_
          rintro r w' ⟨rfl, hw⟩
          obtain rfl : w3 = w' := hw.symm
          go_wp2_with fail
          refine (HI4.out _).mono ?_
          rintro r w4 ⟨rfl, hb4⟩
          have HB4 := Lib.hid (HB3.out.trans (hb4.mono HB3.out.size))
          clear hb4
          go_wp2_with fail
          go_ret
          exact ⟨rfl, HB4.out⟩
end Go.Proofs.YtapeplcpgcbinaaDoor
