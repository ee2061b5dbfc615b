/- Txn: the question whose answer is fixed: the walk. -/
import Derived.Test.YtaifmfnmgnmgbaaGreatDoorTxHead0
namespace Go.Proofs.YtaifmfnmgnmgbaaGreatDoor.Txn
open Go.RowKit Go.My

structure HdAt (W : World) (q : Nat) : Prop where
  r0 : W.heap[q]? = some (.cells #[.string ⟨#[98]⟩, .int .i64 0] 53 (0, 0))
  r1 : W.heap[q + 1]? = some (.cells #[.string ⟨#[97]⟩, .string ⟨#[120]⟩] 48 (0, 0))
  r2 : W.heap[q + 2]? = some (txC T0 (some ⟨q, 0, none⟩) 1 (some ⟨q + 1, 0, none⟩) 1)
theorem HdAt.below {W W' : World} {q : Nat} (h : HdAt W q) (hb : Below W.heap.size W W') : HdAt W' q :=
  ⟨(hb.block _ (lt_of_heap h.r0)).trans h.r0, (hb.block _ (lt_of_heap h.r1)).trans h.r1, (hb.block _ (lt_of_heap h.r2)).trans h.r2⟩
theorem HdAt.at {W : World} {q : Nat} (h : HdAt W q) : TxAt W T0 (some ⟨q, 0, none⟩) (some ⟨q + 1, 0, none⟩) := ⟨lies_rd1 h.r0, lies_wr1 h.r1, by decide, by decide⟩
theorem HdAt.cells {W : World} {q : Nat} (h : HdAt W q) : W.cell? ⟨q + 2, 0, none⟩ = some (.int .i64 1) ∧ W.cell? ⟨q + 2, 1, none⟩ = some (.int .i64 1) ∧ W.cell? ⟨q + 2, 2, none⟩ = some (.slice (some ⟨q, 0, none⟩) 1 1) ∧ W.cell? ⟨q + 2, 3, none⟩ = some (.slice (some ⟨q + 1, 0, none⟩) 1 1) := txC_cell h.r2
theorem hput {W : World} {q : Nat} (h : HdAt W q) : Calls Tryz.prog 10 #[.agg #[.int .i64 1, .int .i64 1, .slice (some ⟨q, 0, none⟩) 1 1, .slice (some ⟨q + 1, 0, none⟩) 1 1]] W fun e w' => ∃ g cap, e = .returned (.tuple #[.slice (some ⟨g, 0, none⟩) (txT T0).length cap, .nilIface]) ∧ LiesAt w' (some ⟨g, 0, none⟩) 1 uvL (txT T0) ∧ Below W.heap.size W w' :=
  (put_any T0 _ 1 _ 1 W h.at).mono fun e w' ⟨hb, hh⟩ => by
    rcases hh with ⟨_, g, cap, rfl, hl⟩ | ⟨hr, _⟩
    · exact ⟨g, cap, rfl, hl, hb⟩
    · rw [right0] at hr; cases hr
theorem hget {W : World} {g cap : Nat} (h : LiesAt W (some ⟨g, 0, none⟩) 1 uvL (txT T0)) : Calls Tryz.prog 12 #[.slice (some ⟨g, 0, none⟩) (txT T0).length cap] W fun e w' => ∃ ra rc wa wc, e = .returned (.tuple #[.agg #[.int .i64 1, .int .i64 1, .slice ra 1 rc, .slice wa 1 wc], .nilIface]) ∧ Below W.heap.size W w' :=
  (get_any _ cap (txT T0) W h (by have := txT_len (rightT_of right0); omega) (by simp)).mono fun e w' ⟨hb, hh⟩ => by
    rcases hh with ⟨t, ra, rc, wa, wc, hs, _, rfl, _⟩ | ⟨hno, _⟩
    · rw [back_yes right0] at hs
      obtain rfl : T0 = t := congrArg Prod.fst hs
      exact ⟨ra, rc, wa, wc, rfl, hb⟩
    · have := hno T0 (back_yes right0)
      rw [right0] at this
      cases this
theorem happly {W : World} {q p g : Nat} (h : HdAt W q) (hs : StoreAt W p none 0 []) (hk : LiesAt W (some ⟨g, 0, none⟩) 1 strL [kA]) : Calls Tryz.prog 17 #[.agg #[.int .i64 1, .int .i64 1, .slice (some ⟨q, 0, none⟩) 1 1, .slice (some ⟨q + 1, 0, none⟩) 1 1], .pointer (some ⟨p, 0, none⟩), .slice (some ⟨g, 0, none⟩) 1 1] W fun e w' => e = .returned .nilIface ∧ Wrote [p] W w' ∧ ∃ a cap, StoreAt w' p a cap L1 :=
  (apply_any T0 _ 1 _ 1 p none 0 [] _ 1 [kA] W h.at (by simp) hs ⟨by simp, List.Pairwise.nil, by simp⟩ hk (by simp)).mono fun e w' ⟨hw, hh⟩ => by
    rcases hh with ⟨L', a, cap, ha, rfl, _, hs⟩ | ⟨ha, _⟩
    · rw [apply0] at ha
      cases ha
      exact ⟨rfl, hw, a, cap, hs⟩
    · rw [apply0] at ha
      cases ha
theorem hsget {W : World} {p : Nat} {a : Option Addr} {cap : Nat} (hs : StoreAt W p a cap L1) : Calls Tryz.prog 18 #[.pointer (some ⟨p, 0, none⟩), .string ⟨#[97]⟩] W fun e w' => e = .returned (.tuple #[.agg #[.string ⟨#[97]⟩, .string ⟨#[120]⟩, .int .i64 1], .bool true]) ∧ Below W.heap.size W w' :=
  (get_11 p a cap L1 kA W hs (by simp [L1])).mono fun e w' ⟨h1, h2⟩ => ⟨by rw [h1]; unfold L1; rw [get_one]; rfl, h2⟩
theorem hkeys {W : World} {q : Nat} (h : HdAt W q) : Calls Tryz.prog 15 #[.agg #[.int .i64 1, .int .i64 1, .slice (some ⟨q, 0, none⟩) 1 1, .slice (some ⟨q + 1, 0, none⟩) 1 1]] W fun e w' => ∃ g o c, e = .returned (.slice (some ⟨g, o, none⟩) 2 c) ∧ LiesAt w' (some ⟨g, o, none⟩) 1 strL [kA, kB] ∧ w'.cell? ⟨g, o, none⟩ = some (.string ⟨#[97]⟩) ∧ g < w'.heap.size ∧ Below W.heap.size W w' :=
  (keys_any T0 _ 1 _ 1 W h.at).mono fun e w' ⟨a, c, he, hl, hb⟩ => by
    rw [keys0] at he hl
    obtain ⟨g, o, rfl, hg, hc⟩ := hl 0 kA rfl
    exact ⟨g, o, c, he, hl, hc 0 _ rfl, hg, hb⟩
theorem hfits {W : World} {q p g o c : Nat} {a : Option Addr} {cap : Nat} (h : HdAt W q) (hs : StoreAt W p a cap L1) (hk : LiesAt W (some ⟨g, o, none⟩) 1 strL [kA, kB]) : Calls Tryz.prog 16 #[.agg #[.int .i64 1, .int .i64 1, .slice (some ⟨q, 0, none⟩) 1 1, .slice (some ⟨q + 1, 0, none⟩) 1 1], .pointer (some ⟨p, 0, none⟩), .slice (some ⟨g, o, none⟩) 2 c] W fun e w' => e = .returned (.bool true) ∧ Below W.heap.size W w' :=
  (fits_any T0 _ 1 _ 1 p a cap L1 _ c [kA, kB] W h.at (by simp) (by simp) hs (by simp [L1]) hk (by simp)).mono fun e w' ⟨h1, h2⟩ => ⟨by rw [h1, fits0], h2⟩
theorem hcheck (W : World) : Calls Tryz.prog 11 #[.agg #[.int .i64 0, .int .i64 0, .slice none 0 0, .slice none 0 0]] W fun e w' => e = .returned errTx ∧ Below W.heap.size W w' :=
  (check_any ⟨0, 0, [], []⟩ none 0 none 0 W ⟨LiesAt.nil _ _ _ _, LiesAt.nil _ _ _ _, by simp, by simp⟩).mono fun e w' ⟨h1, h2⟩ => ⟨by rw [h1, right_no]; rfl, h2⟩
theorem hcode (W : World) (hg : TypeIs W) : Calls Tryz.prog 26 #[errTx] W fun e w' => e = .returned (.int .i64 101) ∧ Below W.heap.size W w' := code_of 101 [(⟨#[116, 120, 110]⟩, 0)] W hg
theorem below_at {w w2 w3 : World} {p : Nat} (h : Below w.heap.size w w2) (hw : Wrote [p] w2 w3) (hp : w.heap.size ≤ p) : Below w.heap.size w w3 :=
  h.trans (hw.below h.size fun g hg => by
    obtain rfl : g = p := by simpa using hg
    exact hp)
set_option maxRecDepth 100000 in
set_option maxHeartbeats 6400000 in
theorem head_any (w : World) (hg : TypeIs w) : Calls Tryz.prog 8 #[] w (BoolL w true) := by
  obtain ⟨W, hW⟩ : ∃ W : World, W = ((w.alloc (.cells #[.string ⟨#[98]⟩, .int .i64 0] 53)).alloc (.cells #[.string ⟨#[97]⟩, .string ⟨#[120]⟩] 48)).alloc (.cells #[.int .i64 1, .int .i64 1, .slice (some ⟨w.heap.size, 0, none⟩) 1 1, .slice (some ⟨w.heap.size + 1, 0, none⟩) 1 1] 25) := ⟨_, rfl⟩
  obtain ⟨q, hq⟩ : ∃ q, q = w.heap.size := ⟨_, rfl⟩
  have hb : Below w.heap.size w W := by rw [hW]; exact (((Below.refl _ _).alloc (Nat.le_refl _) _).alloc (by simp) _).alloc (by simp; omega) _
  have s1 : ∀ o : Obj, (w.alloc o).heap.size = w.heap.size + 1 := fun o => by simp
  have s2 : ∀ o o' : Obj, ((w.alloc o).alloc o').heap.size = w.heap.size + 2 := fun o o' => by simp
  have hH : HdAt W q := by
    refine ⟨?_, ?_, ?_⟩
    · rw [hW, hq, heap_alloc_old _ _ (by simp; omega), heap_alloc_old _ _ (by simp)]
      exact heap_alloc_new w _
    · have := heap_alloc_new (w.alloc (.cells #[.string ⟨#[98]⟩, .int .i64 0] 53)) (.cells #[.string ⟨#[97]⟩, .string ⟨#[120]⟩] 48)
      rw [s1] at this
      rw [hW, hq, heap_alloc_old _ _ (by simp)]
      exact this
    · have := heap_alloc_new ((w.alloc (.cells #[.string ⟨#[98]⟩, .int .i64 0] 53)).alloc (.cells #[.string ⟨#[97]⟩, .string ⟨#[120]⟩] 48)) (.cells #[.int .i64 1, .int .i64 1, .slice (some ⟨w.heap.size, 0, none⟩) 1 1, .slice (some ⟨w.heap.size + 1, 0, none⟩) 1 1] 25)
      rw [s2] at this
      rw [hW, hq]
      exact this
  have HW : Hid (((w.alloc (.cells #[.string ⟨#[98]⟩, .int .i64 0] 53)).alloc (.cells #[.string ⟨#[97]⟩, .string ⟨#[120]⟩] 48)).alloc (.cells #[.int .i64 1, .int .i64 1, .slice (some ⟨w.heap.size, 0, none⟩) 1 1, .slice (some ⟨w.heap.size + 1, 0, none⟩) 1 1] 25) = W ∧ w.heap.size = q) := ⟨hW.symm, hq.symm⟩
  have HB := Lib.hid hb
  have HH := Lib.hid hH
  have HTY : Hid (TypeIs W) := hg.below hg.lt hb
  obtain ⟨z0, z1, z2, z3⟩ := hH.cells
  have HP := Lib.hid (hput hH)
  obtain ⟨bn, hbn⟩ : ∃ bn, bn = (txT T0).length := ⟨_, rfl⟩
  have HBN := Lib.hid hbn
  rw [← hbn] at HP
  clear hg hW hq hb hH hbn s1 s2
  go_enter Tryz.func8, Tryz.ntmps8
  go_upto_region 2 with fail
  rw [HW.out.1, HW.out.2]
  go_wp2_with fail
  refine HP.out.mono ?_
  rintro e w1 ⟨g, cap, rfl, hl1, hb1⟩
  have HG := hget (cap := cap) hl1
  rw [← HBN.out] at HG
  have HGG := Lib.hid HG
  have HB1 := Lib.hid hb1
  clear z0 z1 z2 z3 hl1 hb1 HP HG
  go_wp2_with fail
  refine HGG.out.mono ?_
  rintro e w2 ⟨ra, rc, wa, wc, rfl, hb2⟩
  obtain ⟨W3, hW3⟩ : ∃ W3 : World, W3 = w2.alloc (.cells #[.int .i64 1, .int .i64 1, .slice ra 1 rc, .slice wa 1 wc] 25) := ⟨_, rfl⟩
  obtain ⟨b3, hb3⟩ : ∃ b3, b3 = w2.heap.size := ⟨_, rfl⟩
  have hbb3 : Below w2.heap.size w2 W3 := by rw [hW3]; exact bl_alloc _ _
  have hbx3 : W3.heap[b3]? = some (.cells #[.int .i64 1, .int .i64 1, .slice ra 1 rc, .slice wa 1 wc] 25 (0, 0)) := by rw [hW3, hb3]; exact heap_alloc_new w2 _
  have HW3 : Hid (w2.alloc (.cells #[.int .i64 1, .int .i64 1, .slice ra 1 rc, .slice wa 1 wc] 25) = W3 ∧ w2.heap.size = b3) := ⟨hW3.symm, hb3.symm⟩
  have HB3 : Hid (Below W.heap.size W W3 ∧ W3.heap[b3]? = some (.cells #[.int .i64 1, .int .i64 1, .slice ra 1 rc, .slice wa 1 wc] 25 (0, 0))) := ⟨bl_trans HB1.out (bl_trans hb2 hbb3), hbx3⟩
  have HN := Lib.hid (snew W3)
  clear hb2 hW3 hb3 hbb3 hbx3 HGG
  go_upto_region 4 with fail
  rw [HW3.out.1, HW3.out.2]
  go_wp2_with fail
  refine HN.out.mono ?_
  rintro e w3 ⟨rfl, hb4, hs4⟩
  obtain ⟨p, hp⟩ : ∃ p, p = W3.heap.size := ⟨_, rfl⟩
  rw [← hp] at hs4 ⊢
  have HP4 : Hid (W.heap.size ≤ p ∧ W3.heap.size ≤ p) := ⟨by rw [hp]; exact HB3.out.1.size, by rw [hp]; exact Nat.le_refl _⟩
  obtain ⟨W4, hW4⟩ : ∃ W4 : World, W4 = w3.alloc (.cells #[.string ⟨#[97]⟩] 9) := ⟨_, rfl⟩
  obtain ⟨b4, hb4'⟩ : ∃ b4, b4 = w3.heap.size := ⟨_, rfl⟩
  have hbb4 : Below w3.heap.size w3 W4 := by rw [hW4]; exact bl_alloc _ _
  have hbx4 : W4.heap[b4]? = some (.cells #[.string ⟨#[97]⟩] 9 (0, 0)) := by rw [hW4, hb4']; exact heap_alloc_new w3 _
  have HW4 : Hid (w3.alloc (.cells #[.string ⟨#[97]⟩] 9) = W4 ∧ w3.heap.size = b4) := ⟨hW4.symm, hb4'.symm⟩
  have h34 : Below W3.heap.size W3 W4 := bl_trans hb4 hbb4
  have HB4 : Hid (Below W3.heap.size W3 W4) := h34
  have hH4 : HdAt W4 q := (HH.out.below HB3.out.1).below h34
  have hH3 : HdAt w3 q := (HH.out.below HB3.out.1).below hb4
  obtain ⟨z0, z1, z2, z3⟩ := hH3.cells
  have HA := Lib.hid (happly hH4 (hs4.below hbb4) (lies_k1 hbx4))
  clear hb4 hs4 hp hW4 hb4' hbb4 hbx4 h34 hH3 HN
  have HH4 := Lib.hid hH4
  clear hH4
  go_wp2_with fail
  rw [HW4.out.1, HW4.out.2]
  refine HA.out.mono ?_
  rintro e w5 ⟨rfl, hw5, a5, c5, hs5⟩
  have HB5 : Hid (Below W3.heap.size W3 w5) := below_at HB4.out hw5 HP4.out.2
  have HS5 := Lib.hid hs5
  have HG5 := Lib.hid (hsget hs5)
  clear z0 z1 z2 z3 hw5 hs5 HA
  go_wp2_with fail
  refine HG5.out.mono ?_
  rintro e w6 ⟨rfl, hb6⟩
  obtain ⟨W7, hW7⟩ : ∃ W7 : World, W7 = w6.alloc (.cells #[.string ⟨#[97]⟩, .string ⟨#[120]⟩, .int .i64 1] 42) := ⟨_, rfl⟩
  obtain ⟨b7, hb7⟩ : ∃ b7, b7 = w6.heap.size := ⟨_, rfl⟩
  have hbb7 : Below w6.heap.size w6 W7 := by rw [hW7]; exact bl_alloc _ _
  have hbx7 : W7.heap[b7]? = some (.cells #[.string ⟨#[97]⟩, .string ⟨#[120]⟩, .int .i64 1] 42 (0, 0)) := by rw [hW7, hb7]; exact heap_alloc_new w6 _
  have HW7 : Hid (w6.alloc (.cells #[.string ⟨#[97]⟩, .string ⟨#[120]⟩, .int .i64 1] 42) = W7 ∧ w6.heap.size = b7) := ⟨hW7.symm, hb7.symm⟩
  have h57 := bl_trans hb6 hbb7
  have HB7 : Hid (Below W3.heap.size W3 W7 ∧ StoreAt W7 p a5 c5 L1 ∧ W7.heap[b7]? = some (.cells #[.string ⟨#[97]⟩, .string ⟨#[120]⟩, .int .i64 1] 42 (0, 0))) := ⟨HB5.out.trans (h57.mono HB5.out.size), HS5.out.below h57, hbx7⟩
  have hH7 : HdAt W7 q := (HH.out.below HB3.out.1).below HB7.out.1
  obtain ⟨z0, z1, z2, z3⟩ := hH7.cells
  have HK := Lib.hid (hkeys hH7)
  have HH7 := Lib.hid hH7
  clear hb6 hW7 hb7 hbb7 hbx7 h57 hH7 HG5
  go_upto_region 9 with fail
  rw [HW7.out.1, HW7.out.2]
  go_wp2_with fail
  refine HK.out.mono ?_
  rintro e w8 ⟨g8, o8, c8, rfl, hl8, hc8, hg8, hb8⟩
  have HB8 : Hid (Below W7.heap.size W7 w8 ∧ LiesAt w8 (some ⟨g8, o8, none⟩) 1 strL [kA, kB] ∧ w8.cell? ⟨g8, o8, none⟩ = some (.string ⟨#[97]⟩) ∧ g8 < w8.heap.size) := ⟨hb8, hl8, hc8, hg8⟩
  have y1 : w8.cell? ⟨b3, 1, none⟩ = some (.int .i64 1) := by
    have h38 : Below W3.heap.size W3 w8 := HB7.out.1.trans (hb8.mono HB7.out.1.size)
    rw [cell_of_row _ _ _ _ _ _ ((h38.block _ (lt_of_heap HB3.out.2)).trans HB3.out.2)]
    rfl
  have HC := Lib.hid (hcheck w8)
  clear z0 z1 z2 z3 hl8 hc8 hg8 hb8 HK
  go_wp2_with fail
  refine HC.out.mono ?_
  rintro e w9 ⟨rfl, hb9⟩
  have HB9 := Lib.hid hb9
  have HTY9 : TypeIs w9 := by
    have h1 := HTY.out
    have h2 : Below W.heap.size W W7 := HB3.out.1.trans (HB7.out.1.mono HB3.out.1.size)
    have h3 := h2.trans (HB8.out.1.mono h2.size)
    exact h1.below h1.lt (h3.trans (hb9.mono h3.size))
  have HCD := Lib.hid (hcode w9 HTY9)
  have HE1 : errTx = .iface 163 (.agg #[.string ⟨#[116, 120, 110]⟩, .int .i64 0, .iface 70 (.int .i64 101)]) := rfl
  rw [HE1] at HCD ⊢
  clear y1 hb9 HTY9 HE1 HC
  go_wp2_with fail
  refine HCD.out.mono ?_
  rintro e w10 ⟨rfl, hb10⟩
  have h810 := bl_trans HB9.out hb10
  have h710 := bl_trans HB8.out.1 h810
  have hH10 := HH7.out.below h710
  obtain ⟨z0, z1, z2, z3⟩ := hH10.cells
  have x1 : w10.cell? ⟨b7, 1, none⟩ = some (.string ⟨#[120]⟩) := by
    rw [cell_of_row _ _ _ _ _ _ ((h710.block _ (lt_of_heap HB7.out.2.2)).trans HB7.out.2.2)]
    rfl
  have k1 : w10.cell? ⟨g8, o8, none⟩ = some (.string ⟨#[97]⟩) := (h810.cell (p := ⟨g8, o8, none⟩) HB8.out.2.2.2).trans HB8.out.2.2.1
  have hg10 : g8 < w10.heap.size := Nat.lt_of_lt_of_le HB8.out.2.2.2 h810.size
  have HF := Lib.hid (hfits (c := c8) hH10 (HB7.out.2.1.below h710) (HB8.out.2.1.below h810))
  have HFB : Hid (Below w.heap.size w w10) := by
    have h1 : Below w.heap.size w W3 := HB.out.trans (HB3.out.1.mono HB.out.size)
    have h2 : Below w.heap.size w W7 := h1.trans (HB7.out.1.mono h1.size)
    exact h2.trans (h710.mono h2.size)
  clear hb10 h810 h710 hH10 HCD
  go_wp2_with fail
  refine HF.out.mono ?_
  rintro e w11 ⟨rfl, hb11⟩
  have HFIN : Hid (Below w.heap.size w w11) := HFB.out.trans (hb11.mono HFB.out.size)
  clear hb11 z0 z1 z2 z3 x1 k1 HF
  go_wp2_with fail
  go_ret
  exact ⟨rfl, HFIN.out⟩
end Go.Proofs.YtaifmfnmgnmgbaaGreatDoor.Txn
