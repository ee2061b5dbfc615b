/- Two alike rows of pieces are told alike; moves that a law is handed. -/
import Derived.Test.YtemgcliihbjjiaaDoorRlaw1
import Derived.Test.YtemgcliihbjjiaaDoorRargs
namespace Go.Proofs.YtemgcliihbjjiaaDoor
open Go.RowKit Go.My

set_option maxRecDepth 100000 in
set_option maxHeartbeats 1600000 in
theorem same_14 (a b : Option Addr) (n c d : Nat) (R : List Pc) (w : World) (ha : Lies w a 3 pcL R) (hb : Lies w b 3 pcL R) (hn : n = R.length) (hl : (n : Int) ≤ 70368744177664) :
    Calls Tryd.prog 14 #[.slice a n c, .slice b n d] w (BoolLeft w true) := by
  have HA := Lib.hid ha
  have HB := Lib.hid hb
  have HN := Lib.hid hn
  have P0 : Hid (Below w.heap.size w w) := Below.refl _ _
  clear ha hb hn
  go_enter Tryd.func14, Tryd.ntmps14
  go_wp2_with fail
  go_loopw [5] (fun i wr => ∃ j : Nat, j ≤ n ∧ i = .int .i64 j ∧ Hid (Below w.heap.size w wr)) (fun i _ => n - (intOf i).toNat)
  case atStart => exact ⟨0, by omega, rfl, P0⟩
  case round =>
    clear P0
    obtain ⟨j, hj, rfl, HW⟩ := hrel
    by_cases hlt : j < n
    · obtain ⟨x, hx⟩ : ∃ x, R[j]? = some x := ⟨_, List.getElem?_eq_getElem (by rw [← HN.out]; exact hlt)⟩
      obtain ⟨g, o, rfl, hg, hc⟩ := HA.out.below HW.out j x hx
      obtain ⟨g2, o2, rfl, hg2, hc2⟩ := HB.out.below HW.out j x hx
      have d0 : wr.cell? ⟨g, o + j * 3, none⟩ = some (.string x.fr) := hc 0 _ rfl
      have d1 : wr.cell? ⟨g, o + j * 3 + 1, none⟩ = some (.int .i64 x.sh) := hc 1 _ rfl
      have d2 : wr.cell? ⟨g, o + j * 3 + 2, none⟩ = some (.int .i64 x.ep) := hc 2 _ rfl
      have e0 : wr.cell? ⟨g2, o2 + j * 3, none⟩ = some (.string x.fr) := hc2 0 _ rfl
      have e1 : wr.cell? ⟨g2, o2 + j * 3 + 1, none⟩ = some (.int .i64 x.sh) := hc2 1 _ rfl
      have e2 : wr.cell? ⟨g2, o2 + j * 3 + 2, none⟩ = some (.int .i64 x.ep) := hc2 2 _ rfl
      have hj0 : (0 : Int) ≤ (j : Int) := by omega
      have hj1 : (j : Int) < (n : Int) := by omega
      have HD : Hid (∀ q, Below w.heap.size w (wr.drewN q)) := fun q => ⟨HW.out.os, HW.out.tape, HW.out.output, HW.out.size, HW.out.block⟩
      clear hc hc2 hx
      go_wp2_with fail
      go_quiet (fail)
      go_wp2_with fail
      exact ⟨⟨j + 1, by omega, by simp, HD.out _⟩, by simp [intOf]; omega⟩
    · obtain rfl : j = n := by omega
      go_wp2_with fail
      go_ret
      exact ⟨rfl, HW.out⟩
end Go.Proofs.YtemgcliihbjjiaaDoor
