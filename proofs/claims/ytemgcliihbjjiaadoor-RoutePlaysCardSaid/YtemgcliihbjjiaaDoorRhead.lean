/- A route: the question whose answer is fixed. -/
import Derived.Test.YtemgcliihbjjiaaDoorRmove
import Derived.Test.YtemgcliihbjjiaaDoorRof
import Derived.Test.YtemgcliihbjjiaaDoorTxt
import Derived.Test.YtemgcliihbjjiaaDoorAs4
namespace Go.Proofs.YtemgcliihbjjiaaDoor
open Go.RowKit Go.My

def kB (c : UInt8) : ByteArray := ⟨#[c]⟩
theorem kB_less (c d : UInt8) : lessK (kB c) (kB d) = decide (c < d) := by
  unfold lessK kB
  rw [Lib.toList_data, Lib.toList_data, less_lt]
  simp [List.cons_lt_cons_iff]
theorem kB_empty (c : UInt8) : lessK ByteArray.empty (kB c) = true := by
  unfold lessK kB
  rw [Lib.toList_data, Lib.toList_data, less_lt]
  exact decide_eq_true (List.nil_lt_cons _ _)
def hd1 : List Pc := [⟨ByteArray.empty, 0, 1⟩]
def hd3 : List Pc := [⟨ByteArray.empty, 0, 1⟩, ⟨kB 107, 2, 2⟩, ⟨kB 112, 0, 1⟩]
theorem kB_size (c : UInt8) : (kB c).size = 1 := rfl
theorem hd_err : moveErr hd1 (kB 107) (kB 112) 2 = none ∧ movL hd1 (kB 107) (kB 112) 2 = hd3 := by
  have e1 : lessK (kB 107) (kB 112) = true := by rw [kB_less]; decide
  have e2 := kB_empty 107
  have e3 := kB_empty 112
  have e4 := lessK_empty (kB 107)
  have e5 := lessK_empty (kB 112)
  have hm : movL hd1 (kB 107) (kB 112) 2 = hd3 := by
    simp [movL, hd1, hd3, aheadL, pl, nx, List.findIdx_cons, e4, e5, e2, ownL, en, ow, kB_size, e3, movedL, behindL, insB, bump]
  refine ⟨?_, hm⟩
  unfold moveErr
  rw [hm]
  simp [rangedB, kB_size, e1, fullB, ownL, hd1, hd3]
  intro x hx
  have : x ∈ [(⟨ByteArray.empty, 0, 1⟩ : Pc)] := List.mem_of_mem_take (List.mem_of_mem_drop hx)
  simp at this
  rw [this]
  decide
theorem hd_m : ow pc0 hd3 (kB 109) = ⟨kB 107, 2, 2⟩ := by
  have e1 := lessK_empty (kB 109)
  have e2 : lessK (kB 109) (kB 107) = false := by rw [kB_less]; decide
  have e3 : lessK (kB 109) (kB 112) = true := by rw [kB_less]; decide
  simp [ow, hd3, e1, e2, e3]
theorem hd_p : ow pc0 hd3 (kB 112) = ⟨kB 112, 0, 1⟩ := by
  have e1 := lessK_empty (kB 112)
  have e2 : lessK (kB 112) (kB 107) = false := by rw [kB_less]; decide
  have e3 : lessK (kB 112) (kB 112) = false := lessK_irr _
  simp [ow, hd3, e1, e2, e3]
theorem hd_last : moveErr hd3 (kB 98) (kB 97) 0 = some (91, 0) := by
  have e1 : lessK (kB 98) (kB 97) = false := by rw [kB_less]; decide
  unfold moveErr
  simp [rangedB, kB_size, e1]
theorem hd_of : ofErr hd1 = none := by decide
theorem hd_of0 : ofErr [] = some (1, 0) := rfl
theorem src_hd {w : World} {H : Nat} (h : w.heap[H]? = some (.cells #[.string ⟨#[]⟩, .int .i64 0, .int .i64 1] 35 (0, 0))) : SrcAny w (some ⟨H, 0, none⟩) 1 hd1 := src_one (x := ⟨ByteArray.empty, 0, 1⟩) h
set_option maxRecDepth 100000 in
set_option maxHeartbeats 3200000 in
theorem head_9 (w : World) (hg : TypeIs w) : Calls Tryd.prog 9 #[] w fun e w' => e = .returned (.bool true) ∧ Below w.heap.size w w' := by
  have HG := Lib.hid hg
  obtain ⟨w1, hw1⟩ : ∃ w1, w1 = w.alloc (.cells #[.string ⟨#[]⟩, .int .i64 0, .int .i64 1] 35) := ⟨_, rfl⟩
  have hb1 : Below w.heap.size w w1 := by rw [hw1]; exact (Below.refl _ w).alloc (Nat.le_refl _) _
  have hr1 : w1.heap[w.heap.size]? = some (.cells #[.string ⟨#[]⟩, .int .i64 0, .int .i64 1] 35 (0, 0)) := by rw [hw1]; exact heap_alloc_new w _
  have HO : Hid (Calls Tryd.prog 10 #[.slice (some ⟨w.heap.size, 0, none⟩) 1 1] w1 (OfLeft w1 hd1)) := of_10 (some ⟨w.heap.size, 0, none⟩) 1 hd1 w1 (src_hd hr1) (by decide)
  have HN : Hid (∀ W, Calls Tryd.prog 10 #[.slice none 0 0] W (OfLeft W [])) := fun W => of_10 none 0 [] W ⟨fun i x h => by simp at h, fun _ => rfl, Nat.le_refl _, by unfold maxLen; omega⟩ (by decide)
  have HB1 := Lib.hid hb1
  clear hb1 hr1 hg
  go_enter Tryd.func9, Tryd.ntmps9
  go_wp2_with fail
  rw [← hw1]
  clear hw1
  refine HO.out.mono ?_
  rintro e w2 ⟨hb, h⟩
  rw [hd_of] at h
  obtain ⟨r, a, cap, rfl, hr, hat⟩ : ∃ r a cap, e = .returned (.tuple #[.pointer (some ⟨r, 0, none⟩), .nilIface]) ∧ w1.heap.size ≤ r ∧ RtAt w2 r a cap hd1 := by
    rcases h with ⟨_, h⟩ | ⟨q, h, _⟩
    · exact h
    · cases h
  have HB2 := Lib.hid (HB1.out.trans (hb.mono HB1.out.size))
  have HR2 : Hid (w.heap.size ≤ r) := by have := HB1.out.size; exact Nat.le_trans this hr
  have HA2 := Lib.hid hat
  clear hb h hr hat HO HB1
  go_wp2_with fail
  refine (HN.out _).mono ?_
  rintro e w3 ⟨hb, h⟩
  rw [hd_of0] at h
  obtain rfl : e = .returned (.tuple #[.pointer none, rErr 1 0]) := by
    rcases h with ⟨h, _⟩ | ⟨q, h, h2⟩
    · cases h
    · obtain rfl : (1, 0) = q := by simpa using h
      exact h2
  have HB3 := Lib.hid (HB2.out.trans (hb.mono HB2.out.size))
  have HA3 := Lib.hid (HA2.out.below hb)
  clear hb h HA2 HN HB2
  have HT : Hid (∀ W, Calls Tryd.prog 21 #[rErr 1 0] W fun e w' => e = .returned (.string textB) ∧ Below W.heap.size W w') := fun W => text_B W
  obtain ⟨q, hq⟩ : ∃ q, q = rErr 1 0 := ⟨_, rfl⟩
  rw [← hq] at HT ⊢
  clear hq
  have HM3 := Lib.hid (move_11 r a cap hd1 (kB 107) (kB 112) 2 w3 HA3.out)
  unfold kB at HM3
  go_wp2_with fail
  refine HM3.out.mono ?_
  rintro e w4 ⟨hw, rfl, a4, c4, hat⟩
  have hat : RtAt w4 r a4 c4 hd3 := by
    have : moveL hd1 (kB 107) (kB 112) 2 = hd3 := by rw [moveL_none hd_err.1]; exact hd_err.2
    rw [← this]; exact hat
  have hq : errQ (moveErr hd1 { data := #[107] } { data := #[112] } 2) = .nilIface := by
    have := hd_err.1
    unfold kB at this
    rw [this]; rfl
  rw [hq]
  have HB4 : Hid (Below w.heap.size w w4) := HB3.out.trans (hw.below HB3.out.size fun k hk => by
    obtain rfl : k = r := by simpa using hk
    exact HR2.out)
  have HA4 := Lib.hid hat
  clear hq hw hat HM3 HA3 HB3
  have HW1 := Lib.hid (owner_12 r a4 c4 hd3 (kB 109) w4 HA4.out)
  rw [hd_m] at HW1
  unfold kB at HW1
  go_wp2_with fail
  refine HW1.out.mono ?_
  rintro e w5 ⟨rfl, hb⟩
  unfold pcA
  obtain ⟨w6, hw6⟩ : ∃ w6, w6 = w5.alloc (.cells #[.string ⟨#[107]⟩, .int .i64 2, .int .i64 2] 35) := ⟨_, rfl⟩
  obtain ⟨x6, hx6⟩ : ∃ x6, x6 = w5.heap.size := ⟨_, rfl⟩
  have hb6 : Below w5.heap.size w5 w6 := by rw [hw6]; exact (Below.refl _ w5).alloc (Nat.le_refl _) _
  have HX6 : Hid (w6.heap[x6]? = some (.cells #[.string ⟨#[107]⟩, .int .i64 2, .int .i64 2] 35 (0, 0))) := by show _ = _; rw [hw6, hx6]; exact heap_alloc_new w5 _
  have HA6 := Lib.hid ((HA4.out.below hb).below hb6)
  have HB6 := Lib.hid (HB4.out.trans ((hb.trans (hb6.mono hb.size)).mono HB4.out.size))
  clear hb hb6 HW1 HA4 HB4
  have HW2 := Lib.hid (owner_12 r a4 c4 hd3 (kB 112) w6 HA6.out)
  rw [hd_p] at HW2
  unfold kB at HW2
  clear hat
  go_wp2_with fail
  rw [← hw6, ← hx6]
  clear hw6 hx6
  refine HW2.out.mono ?_
  rintro e w7 ⟨rfl, hb⟩
  unfold pcA
  obtain ⟨w8, hw8⟩ : ∃ w8, w8 = w7.alloc (.cells #[.string ⟨#[112]⟩, .int .i64 0, .int .i64 1] 35) := ⟨_, rfl⟩
  obtain ⟨x8, hx8⟩ : ∃ x8, x8 = w7.heap.size := ⟨_, rfl⟩
  have hb8 : Below w7.heap.size w7 w8 := by rw [hw8]; exact (Below.refl _ w7).alloc (Nat.le_refl _) _
  have HX8 : Hid (w8.heap[x8]? = some (.cells #[.string ⟨#[112]⟩, .int .i64 0, .int .i64 1] 35 (0, 0))) := by show _ = _; rw [hw8, hx8]; exact heap_alloc_new w7 _
  have hb68 : Below w6.heap.size w6 w8 := hb.trans (hb8.mono hb.size)
  have HX68 := Lib.hid ((hb68.block _ (lt_of_heap HX6.out)).trans HX6.out)
  have HA8 := Lib.hid (HA6.out.below hb68)
  have HB8 := Lib.hid (HB6.out.trans (hb68.mono HB6.out.size))
  clear hb hb8 hb68 HW2 HX6 HA6 HB6
  have HM8 := Lib.hid (move_11 r a4 c4 hd3 (kB 98) (kB 97) 0 w8 HA8.out)
  unfold kB at HM8
  go_wp2_with fail
  rw [← hw8, ← hx8]
  clear hw8 hx8
  refine HM8.out.mono ?_
  rintro e w9 ⟨hw, rfl, a9, c9, hat⟩
  have hat9 : RtAt w9 r a9 c9 hd3 := by
    have : moveL hd3 (kB 98) (kB 97) 0 = hd3 := moveL_some hd_last
    rw [← this]; exact hat
  have hq : errQ (moveErr hd3 { data := #[98] } { data := #[97] } 0) = rErr 91 0 := by
    have := hd_last
    unfold kB at this
    rw [this]; rfl
  rw [hq]
  have hne : ∀ k T c1 c2 c3, w8.heap[k]? = some (.cells #[c1, c2, c3] T (0, 0)) → k ≠ r := fun k T c1 c2 c3 h e => by
    subst e
    rw [HA8.out.cell] at h
    cases h
  have HX69 := Lib.hid (hw.heap HX68.out (by simpa using hne _ _ _ _ _ HX68.out))
  have HX89 := Lib.hid (hw.heap HX8.out (by simpa using hne _ _ _ _ _ HX8.out))
  have HB9 : Hid (Below w.heap.size w w9) := HB8.out.trans (hw.below HB8.out.size fun k hk => by
    obtain rfl : k = r := by simpa using hk
    exact HR2.out)
  have HA9 := Lib.hid hat9
  have HCO : Hid (∀ W, Below w.heap.size w W → Calls Tryd.prog 22 #[rErr 91 0] W fun e w' => e = .returned (.int .i64 91) ∧ Below W.heap.size W w') := fun W hW => code_of 91 [(routeW, 0)] W (HG.out.below HG.out.lt hW)
  clear hq hw hat hat9 hne HM8 HA8 HB8 HX68 HX8
  obtain ⟨q9, hq9⟩ : ∃ q9, q9 = rErr 91 0 := ⟨_, rfl⟩
  rw [← hq9] at HCO ⊢
  clear hq9
  have HPI : Hid (∀ W, Below w9.heap.size w9 W → Calls Tryd.prog 13 #[.pointer (some ⟨r, 0, none⟩)] W (RowLeft W hd3)) := fun W hW => pieces_13 r a9 c9 hd3 W (HA9.out.below hW)
  have HXX : Hid (∀ W, Below w9.heap.size w9 W → W.cell? ⟨x6, 0, none⟩ = some (.string ⟨#[107]⟩) ∧ W.cell? ⟨x6, 1, none⟩ = some (.int .i64 2) ∧ W.cell? ⟨x6, 2, none⟩ = some (.int .i64 2) ∧ W.cell? ⟨x8, 0, none⟩ = some (.string ⟨#[112]⟩) ∧ W.cell? ⟨x8, 1, none⟩ = some (.int .i64 0) ∧ W.cell? ⟨x8, 2, none⟩ = some (.int .i64 1) ∧ x6 < W.heap.size ∧ x8 < W.heap.size) := fun W hW => by
    have h1 := (hW.block _ (lt_of_heap HX69.out)).trans HX69.out
    have h2 := (hW.block _ (lt_of_heap HX89.out)).trans HX89.out
    exact ⟨by rw [cell_of_row _ _ _ _ _ _ h1]; rfl, by rw [cell_of_row _ _ _ _ _ _ h1]; rfl, by rw [cell_of_row _ _ _ _ _ _ h1]; rfl, by rw [cell_of_row _ _ _ _ _ _ h2]; rfl, by rw [cell_of_row _ _ _ _ _ _ h2]; rfl, by rw [cell_of_row _ _ _ _ _ _ h2]; rfl, lt_of_heap h1, lt_of_heap h2⟩
  have hte := textB_eq
  go_wp2_with fail
  refine (HT.out _).mono ?_
  rintro e w10 ⟨rfl, hb⟩
  obtain ⟨y0, y1, y2, z0, z1, z2, ly, lz⟩ := HXX.out w10 hb
  have HB10 := Lib.hid hb
  clear hb HXX HT
  go_wp2_with fail
  refine (HCO.out _ (HB9.out.trans (HB10.out.mono HB9.out.size))).mono ?_
  rintro e w11 ⟨rfl, hb⟩
  have HB11 := Lib.hid (HB10.out.trans (hb.mono HB10.out.size))
  clear hb HB10 y0 y1 y2 z0 z1 z2 ly lz hte
  go_wp2_with fail
  refine (HPI.out _ HB11.out).mono ?_
  rintro e w12 ⟨v, rfl, ho, hb⟩
  obtain ⟨a13, c13, rfl, -⟩ := row_form ho
  have HB12 := Lib.hid (HB9.out.trans ((HB11.out.trans (hb.mono HB11.out.size)).mono HB9.out.size))
  clear ho hb
  rw [show hd3.length = 3 from rfl]
  go_wp2_with fail
  go_ret
  exact ⟨rfl, HB12.out⟩
end Go.Proofs.YtemgcliihbjjiaaDoor
