/- Book: the live question. -/
import Derived.Test.YtmpbeopbkllcnaaDoorBkDig
import Derived.Lib.SlBytesConst
namespace Go.Proofs.YtmpbeopbkllcnaaDoor.Book
open Go.RowKit Go.My

theorem own : ownKnob Tryd.prog.godebug = none := by kernel_rfl
theorem laidOut : laidOutB Tryd.prog = true := by kernel_rfl
theorem dig_one {w : World} {base b m : Nat} {v : Value} {ts : List ByteArray} (h : BookAt w base b m v ts) (x : UInt8) (hl : ts.length < 65536) (hbw : base ≤ w.heap.size) :
    Calls Tryd.prog 22 #[.pointer (some ⟨b, 0, none⟩), .slice (some ⟨w.heap.size, 0, none⟩) 1 1] (w.alloc (.cells #[.int .u8 (x.toNat : Int)] 5 (1, 2)))
      (DigLeft (w.alloc (.cells #[.int .u8 (x.toNat : Int)] 5 (1, 2))) base b m v ts ⟨#[x]⟩) := by
  have hb := h.below ((Below.refl _ w).alloc (Nat.le_refl _) (.cells #[.int .u8 (x.toNat : Int)] 5 (1, 2)))
  refine dig_any hb w.heap.size 0 1 ⟨#[x]⟩ (by show 1 ≤ 65536; omega) hl (by simp; omega) (fun i hi => ?_) (by simp) ?_ ?_
  · have hi1 : i < 1 := hi
    obtain rfl : i = 0 := by omega
    rw [cell_of_row _ _ _ _ _ _ (heap_alloc_new w _)]
    rfl
  · have := h.map.lt
    omega
  · intro e
    have := (h.row.lt _ e).2
    omega

def A1 : List ByteArray := [⟨#[97]⟩]
def A2 : List ByteArray := [⟨#[97]⟩, ⟨#[98]⟩]
theorem q1 : asked [] ⟨#[97]⟩ = A1 ∧ placeOf [] ⟨#[97]⟩ = 0 := by decide
theorem q2 : asked A1 ⟨#[98]⟩ = A2 ∧ placeOf A1 ⟨#[98]⟩ = 1 := by decide
theorem q3 : asked A2 ⟨#[97]⟩ = A2 ∧ placeOf A2 ⟨#[97]⟩ = 0 := by decide

set_option maxRecDepth 100000 in
set_option maxHeartbeats 800000 in
theorem head_any (w : World) : Calls Tryd.prog 19 #[] w fun e w' => e = .returned (.bool true) ∧ Below w.heap.size w w' := by
  have kc := fun (w : World) (C : Array Value) (n c : Nat) => Lib.run_convert_bytes_const (P := Tryd.prog) w 56 5 C n c Tryd.underlying56 Tryd.underlying5
  go_enter Tryd.func19, Tryd.ntmps19
  go_wp2_with (go_at_call 21; refine (new_any _).mono ?_; rintro e w1 ⟨b, m, v, rfl, hs1, hb1⟩; have H1 := Lib.hid hs1; have B1 := Lib.hid hb1; clear hs1 hb1)
  refine (dig_one H1.out 97 (by decide) B1.out.size).mono ?_
  rintro e w2 ⟨v2, rfl, h2, b2⟩
  rw [q1.1] at h2
  rw [q1.2]
  have H2 := Lib.hid h2
  have B2 := Lib.hid (B1.out.trans ((((Below.refl w.heap.size w1).alloc B1.out.size _)).trans b2.below))
  clear h2 b2
  go_wp2_with fail
  refine (dig_one H2.out 98 (by decide) B2.out.size).mono ?_
  rintro e w3 ⟨v3, rfl, h3, b3⟩
  rw [q2.1] at h3
  rw [q2.2]
  have H3 := Lib.hid h3
  have B3 := Lib.hid (B2.out.trans ((((Below.refl w.heap.size w2).alloc B2.out.size _)).trans b3.below))
  clear h3 b3
  go_wp2_with fail
  refine (dig_one H3.out 97 (by decide) B3.out.size).mono ?_
  rintro e w4 ⟨v4, rfl, h4, b4⟩
  rw [q3.1] at h4
  rw [q3.2]
  have H4 := Lib.hid h4
  have B4 := Lib.hid (B3.out.trans ((((Below.refl w.heap.size w3).alloc B3.out.size _)).trans b4.below))
  clear h4 b4
  go_wp2_with fail
  refine (text_no H4.out 2 (.inr (by decide))).mono ?_
  rintro e w5 ⟨rfl, hb5⟩
  have H5 := Lib.hid (H4.out.below hb5)
  have B5 := Lib.hid (B4.out.trans (hb5.mono B4.out.size))
  clear hb5
  have e2 : wrapV ((A2.length : Nat) : Int) 1 = wrapV 2 1 := rfl
  rw [e2]
  clear e2
  have HT := Lib.hid (text2 w5)
  have HM := Lib.hid (fun W (hb : Below w5.heap.size w5 W) => many_any (H5.out.below hb))
  have e3 : ((A2.length : Nat) : Int) = 2 := rfl
  rw [e3] at HM
  clear e3
  unfold wrapV at HT ⊢
  go_wp2_with fail
  refine HT.out.mono ?_
  rintro e w6 ⟨rfl, hb6⟩
  have B6 := Lib.hid hb6
  clear hb6
  unfold book2
  go_wp2_with (go_at_call 26; refine (HM.out _ B6.out).mono ?_; rintro e w7 ⟨rfl, rfl⟩)
  go_ret
  exact ⟨rfl, B5.out.trans (B6.out.mono B5.out.size)⟩
end Go.Proofs.YtmpbeopbkllcnaaDoor.Book
