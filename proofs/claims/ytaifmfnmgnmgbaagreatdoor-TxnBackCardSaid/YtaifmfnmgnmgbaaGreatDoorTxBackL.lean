/- Txn: TxnBack. -/
import Derived.Test.YtaifmfnmgnmgbaaGreatDoorTxArgs
import Derived.Test.YtaifmfnmgnmgbaaGreatDoorGenl
import Derived.BigQuiet
import Derived.Deep.QuietTactic
namespace Go.Proofs.YtaifmfnmgnmgbaaGreatDoor.Txn
open Go.RowKit Go.My
open Go.Proofs.YtaifmfnmgnmgbaaGreatDoor.Merkle (uv ofL ofL_size)

theorem conv_l {w : World} {a : Option Addr} {c : Nat} {l : List UInt8} (h : LiesAt w a 1 uvL l) : (convert 26 9 (.slice a l.length c)).run Tryz.prog w = .ok (.string (ofL l)) w := by
  have h2 : LiesAt w a 1 uvL (ofL l).data.toList := by
    have e : (ofL l).data.toList = l := by simp [ofL]
    rw [e]
    exact h
  have := conv_uv (c := c) h2
  rw [ofL_size] at this
  exact this
set_option maxRecDepth 100000 in
set_option maxHeartbeats 6400000 in
theorem back_any (z : TxZ) (a : Option Addr) (cp : Nat) (l : List UInt8) (w : World) (hg : TypeIs w) (hz : TIn w z) (h : LiesAt w a 1 uvL l) (hnil : a = none → cp = 0) :
    Calls Tryz.prog 3 #[txV z.t z.ra z.rc z.wa z.wc, .slice a l.length cp] w (BoolL w true) := by
  obtain ⟨t, ra, rc, wa, wc⟩ := z
  obtain ⟨hwide, hn1, hn2⟩ := hz
  simp only at hwide hn1 hn2
  obtain ⟨W, hW⟩ : ∃ W : World, W = w.alloc (.cells #[.int .i64 t.cl, .int .i64 t.num, .slice ra t.R.length rc, .slice wa t.W.length wc] 25) := ⟨_, rfl⟩
  obtain ⟨q, hq⟩ : ∃ q, q = w.heap.size := ⟨_, rfl⟩
  have hb : Below w.heap.size w W := by rw [hW]; exact bl_alloc _ _
  have hbx : W.heap[q]? = some (txC t ra rc wa wc) := by rw [hW, hq]; exact heap_alloc_new w _
  have HW : Hid (w.alloc (.cells #[.int .i64 t.cl, .int .i64 t.num, .slice ra t.R.length rc, .slice wa t.W.length wc] 25) = W ∧ w.heap.size = q) := ⟨hW.symm, hq.symm⟩
  have HB := Lib.hid hb
  have HWI := Lib.hid (hwide.below hb)
  have HL := Lib.hid (And.intro (h.below hb) hnil)
  have HD := Lib.hid (head_any W (hg.below hg.lt hb))
  unfold txV
  obtain ⟨cl, hcl⟩ : ∃ cl, cl = t.cl := ⟨_, rfl⟩
  obtain ⟨num, hnum⟩ : ∃ num, num = t.num := ⟨_, rfl⟩
  obtain ⟨rn, hrn⟩ : ∃ rn, rn = t.R.length := ⟨_, rfl⟩
  obtain ⟨wn, hwn⟩ : ∃ wn, wn = t.W.length := ⟨_, rfl⟩
  obtain ⟨n, hn⟩ : ∃ n, n = l.length := ⟨_, rfl⟩
  have HF : Hid (cl = t.cl ∧ num = t.num ∧ rn = t.R.length ∧ wn = t.W.length ∧ n = l.length) := ⟨hcl, hnum, hrn, hwn, hn⟩
  have HV : Hid (∀ (e : Ending → World → Prop) X f, Calls Tryz.prog f #[txV t ra rc wa wc] X e → Calls Tryz.prog f #[.agg #[.int .i64 cl, .int .i64 num, .slice ra rn rc, .slice wa wn wc]] X e) := fun e X f hh => by
    rw [hcl, hnum, hrn, hwn]
    exact hh
  have HZ : Hid (∀ X, Below W.heap.size W X → X.cell? ⟨q, 0, none⟩ = some (.int .i64 cl) ∧ X.cell? ⟨q, 1, none⟩ = some (.int .i64 num) ∧ X.cell? ⟨q, 2, none⟩ = some (.slice ra rn rc) ∧ X.cell? ⟨q, 3, none⟩ = some (.slice wa wn wc)) := fun X hX => by
    have := txC_cell ((hX.block _ (lt_of_heap hbx)).trans hbx)
    rw [hcl, hnum, hrn, hwn]
    exact this
  rw [← hcl, ← hnum, ← hrn, ← hwn] at HW
  rw [← hcl, ← hnum, ← hrn, ← hwn, ← hn]
  clear hg h hW hq hb hbx hcl hnum hrn hwn hn hwide hn1 hn2 hnil
  go_enter Tryz.func3, Tryz.ntmps3
  go_upto_region 1 with fail
  rw [HW.out.1, HW.out.2]
  go_wp2_with fail
  refine HD.out.mono ?_
  rintro e w1 ⟨rfl, hb1⟩
  have HB1 := Lib.hid hb1
  obtain ⟨z0, z1, z2, z3⟩ := HZ.out w1 hb1
  have HG := Lib.hid (HV.out _ w1 _ (great_any t ra rc wa wc w1 (HWI.out.below hb1)))
  clear hb1 HD
  go_wp2_with fail
  refine HG.out.mono ?_
  rintro e w2 ⟨g, rfl, hgf, hb2⟩
  have HB2 := Lib.hid (bl_trans HB1.out hb2)
  have HGF := Lib.hid hgf
  clear z0 z1 z2 z3 hb2 hgf HG
  obtain ⟨z0, z1, z2, z3⟩ := HZ.out w2 HB2.out
  cases g with
  | true =>
    go_wp2_with fail
    go_ret
    exact ⟨rfl, bl_trans HB.out HB2.out⟩
  | false =>
    by_cases hn2 : (20000 : Int) < (n : Int)
    · go_wp2_with fail
      go_ret
      exact ⟨rfl, bl_trans HB.out HB2.out⟩
    · have HT := Lib.hid ((HWI.out.below HB2.out).at (HGF.out rfl))
      have HP := Lib.hid (HV.out _ w2 _ (put_any t ra rc wa wc w2 HT.out))
      have HN9 : Hid (l.length ≤ 20000) := by
        have := HF.out.2.2.2.2
        show _ ≤ _
        omega
      clear HGF
      go_wp2_with fail
      refine HP.out.mono ?_
      rintro e w3 ⟨hb3, hh⟩
      have HB3 := Lib.hid (bl_trans HB2.out hb3)
      have HT3 := Lib.hid (HT.out.below hb3)
      clear z0 z1 z2 z3 hb3 HP
      obtain ⟨z0, z1, z2, z3⟩ := HZ.out w3 HB3.out
      rcases hh with ⟨hr, g3, cap3, rfl, hl3⟩ | ⟨hr, rfl⟩
      · have HR := Lib.hid hr
        have e0 : ∀ X : Later w3, X.1.cell? ⟨q, 0, none⟩ = some (.int .i64 cl) := fun X => (HZ.out X.1 (bl_trans HB3.out X.2)).1
        have e1 : ∀ X : Later w3, X.1.cell? ⟨q, 1, none⟩ = some (.int .i64 num) := fun X => (HZ.out X.1 (bl_trans HB3.out X.2)).2.1
        have e2 : ∀ X : Later w3, X.1.cell? ⟨q, 2, none⟩ = some (.slice ra rn rc) := fun X => (HZ.out X.1 (bl_trans HB3.out X.2)).2.2.1
        have e3 : ∀ X : Later w3, X.1.cell? ⟨q, 3, none⟩ = some (.slice wa wn wc) := fun X => (HZ.out X.1 (bl_trans HB3.out X.2)).2.2.2
        have HCL : Hid (∀ X : Later w3, Calls Tryz.prog 11 #[.agg #[.int .i64 cl, .int .i64 num, .slice ra rn rc, .slice wa wn wc]] X.1 fun e w' => e = .returned (.nilIface) ∧ Below X.1.heap.size X.1 w') := fun X => by
          have := HV.out _ X.1 _ (check_any t ra rc wa wc X.1 (HT3.out.below X.2))
          rw [HR.out] at this
          exact this
        have HL3 : Hid (LiesAt w3 (some ⟨g3, 0, none⟩) 1 uvL (txT t) ∧ rightT t = true) := ⟨hl3, hr⟩
        obtain ⟨xn, hxn⟩ : ∃ xn, xn = (txT t).length := ⟨_, rfl⟩
        have HXN := Lib.hid hxn
        rw [← hxn]
        clear hr hl3 z0 z1 z2 z3 hxn
        go_wp2_with fail
        have here := Later.here w3
        refine wp_region_later (by kernel_rfl) (by kernel_rfl) ?_
        iterate 6 (with_reducible refine wpQuiet_step (fun K hK => ?_); go_simp; first | (refine hK _ ?_; clear hK K) | (apply Exists.intro; refine ⟨fun X => ?_, hK _ ?_⟩; (go_at_call 11; with_reducible exact later_call (HCL.out _)); clear hK K))
        with_reducible refine wpQuiet_nil ?_
        intro X
        have hb4 : Below w3.heap.size w3 X.1 := X.2
        generalize X.1 = w4 at hb4 ⊢
        clear X
        have HB4 : Hid (Below W.heap.size W w4) := bl_trans HB3.out hb4
        have HT4 := Lib.hid (HT3.out.below hb4)
        clear e0 e1 e2 e3 here HCL
        obtain ⟨z0, z1, z2, z3⟩ := HZ.out w4 HB4.out
        have HGX := get_any (some ⟨g3, 0, none⟩) cap3 (txT t) w4 (HL3.out.1.below hb4) (by have := txT_len (rightT_of HL3.out.2); omega) (by simp)
        rw [← HXN.out] at HGX
        have HGY := Lib.hid HGX
        clear hb4 HGX
        go_wp2_with fail
        refine HGY.out.mono ?_
        rintro e w8 ⟨hb8, ⟨t8, ra8, rc8, wa8, wc8, hst8, hr8, rfl, hat8⟩ | ⟨hno, _⟩⟩
        · rw [back_yes HL3.out.2] at hst8
          obtain rfl : t = t8 := congrArg Prod.fst hst8
          obtain ⟨W9, hW9⟩ : ∃ W9 : World, W9 = w8.alloc (.cells #[.int .i64 cl, .int .i64 num, .slice ra8 rn rc8, .slice wa8 wn wc8] 25) := ⟨_, rfl⟩
          obtain ⟨b9, hb9⟩ : ∃ b9, b9 = w8.heap.size := ⟨_, rfl⟩
          have hbb9 : Below w8.heap.size w8 W9 := by rw [hW9]; exact bl_alloc _ _
          have hbx9 : W9.heap[b9]? = some (.cells #[.int .i64 cl, .int .i64 num, .slice ra8 rn rc8, .slice wa8 wn wc8] 25 (0, 0)) := by rw [hW9, hb9]; exact heap_alloc_new w8 _
          have HW9 : Hid (w8.alloc (.cells #[.int .i64 cl, .int .i64 num, .slice ra8 rn rc8, .slice wa8 wn wc8] 25) = W9 ∧ w8.heap.size = b9) := ⟨hW9.symm, hb9.symm⟩
          have h49 := bl_trans hb8 hbb9
          have HB9 : Hid (Below W.heap.size W W9) := bl_trans HB4.out h49
          have x0 : W9.cell? ⟨b9, 0, none⟩ = some (.int .i64 cl) := by rw [cell_of_row _ _ _ _ _ _ hbx9]; rfl
          have x1 : W9.cell? ⟨b9, 1, none⟩ = some (.int .i64 num) := by rw [cell_of_row _ _ _ _ _ _ hbx9]; rfl
          have x2 : W9.cell? ⟨b9, 2, none⟩ = some (.slice ra8 rn rc8) := by rw [cell_of_row _ _ _ _ _ _ hbx9]; rfl
          have x3 : W9.cell? ⟨b9, 3, none⟩ = some (.slice wa8 wn wc8) := by rw [cell_of_row _ _ _ _ _ _ hbx9]; rfl
          have HS9 := same_any t ra8 rc8 wa8 wc8 ra rc wa wc W9 (hat8.below hbb9) (HT4.out.below h49)
          unfold txV at HS9
          rw [← HF.out.1, ← HF.out.2.1, ← HF.out.2.2.1, ← HF.out.2.2.2.1] at HS9
          have HSS := Lib.hid HS9
          unfold txV
          rw [← HF.out.1, ← HF.out.2.1, ← HF.out.2.2.1, ← HF.out.2.2.2.1]
          clear z0 z1 z2 z3 hW9 hb9 hbb9 hbx9 hst8 hr8 hat8 hb8 h49 HS9 HGY
          obtain ⟨z0, z1, z2, z3⟩ := HZ.out W9 HB9.out
          go_upto_region 9 with fail
          rw [HW9.out.1, HW9.out.2]
          go_wp2_with fail
          refine HSS.out.mono ?_
          rintro e w10 ⟨rfl, hb10⟩
          have HB10 := Lib.hid (bl_trans HB9.out hb10)
          clear z0 z1 z2 z3 x0 x1 x2 x3 hb10 HSS
          obtain ⟨z0, z1, z2, z3⟩ := HZ.out w10 HB10.out
          have HGT := get_any a cp l w10 (HL.out.1.below HB10.out) (by have := HN9.out; omega) HL.out.2
          rw [← HF.out.2.2.2.2] at HGT
          have HGG := Lib.hid HGT
          clear HGT
          go_wp2_with fail
          refine HGG.out.mono ?_
          rintro e w5 ⟨hb5, ⟨t5, ra5, rc5, wa5, wc5, hst5, hr5, rfl, hat5⟩ | ⟨hno, T5, v5, rfl⟩⟩
          · obtain ⟨cl5, hcl5⟩ : ∃ cl, cl = t5.cl := ⟨_, rfl⟩
            obtain ⟨num5, hnum5⟩ : ∃ num, num = t5.num := ⟨_, rfl⟩
            obtain ⟨rn5, hrn5⟩ : ∃ rn, rn = t5.R.length := ⟨_, rfl⟩
            obtain ⟨wn5, hwn5⟩ : ∃ wn, wn = t5.W.length := ⟨_, rfl⟩
            obtain ⟨W6, hW6⟩ : ∃ W6 : World, W6 = w5.alloc (.cells #[.int .i64 cl5, .int .i64 num5, .slice ra5 rn5 rc5, .slice wa5 wn5 wc5] 25) := ⟨_, rfl⟩
            obtain ⟨b6, hb6⟩ : ∃ b6, b6 = w5.heap.size := ⟨_, rfl⟩
            have hbb6 : Below w5.heap.size w5 W6 := by rw [hW6]; exact bl_alloc _ _
            have hbx6 : W6.heap[b6]? = some (.cells #[.int .i64 cl5, .int .i64 num5, .slice ra5 rn5 rc5, .slice wa5 wn5 wc5] 25 (0, 0)) := by rw [hW6, hb6]; exact heap_alloc_new w5 _
            have HW6 : Hid (w5.alloc (.cells #[.int .i64 cl5, .int .i64 num5, .slice ra5 rn5 rc5, .slice wa5 wn5 wc5] 25) = W6 ∧ w5.heap.size = b6) := ⟨hW6.symm, hb6.symm⟩
            have HB6 : Hid (Below W.heap.size W W6) := bl_trans HB10.out (bl_trans hb5 hbb6)
            have HT5 : Hid (txT t5 = l) := back_no hst5
            have x0 : W6.cell? ⟨b6, 0, none⟩ = some (.int .i64 cl5) := by rw [cell_of_row _ _ _ _ _ _ hbx6]; rfl
            have x1 : W6.cell? ⟨b6, 1, none⟩ = some (.int .i64 num5) := by rw [cell_of_row _ _ _ _ _ _ hbx6]; rfl
            have x2 : W6.cell? ⟨b6, 2, none⟩ = some (.slice ra5 rn5 rc5) := by rw [cell_of_row _ _ _ _ _ _ hbx6]; rfl
            have x3 : W6.cell? ⟨b6, 3, none⟩ = some (.slice wa5 wn5 wc5) := by rw [cell_of_row _ _ _ _ _ _ hbx6]; rfl
            have HP6 := put_any t5 ra5 rc5 wa5 wc5 W6 (hat5.below hbb6)
            unfold txV PutL at HP6
            rw [HT5.out, ← hcl5, ← hnum5, ← hrn5, ← hwn5, ← HF.out.2.2.2.2, hr5] at HP6
            have HPP := Lib.hid HP6
            unfold txV
            rw [← hcl5, ← hnum5, ← hrn5, ← hwn5]
            clear hcl5 hnum5 hrn5 hwn5 hW6 hb6 hbb6 hbx6 hst5 hr5 hat5 hb5 HP6 HGG z0 z1 z2 z3
            go_upto_region 12 with fail
            rw [HW6.out.1, HW6.out.2]
            go_wp2_with fail
            refine HPP.out.mono ?_
            rintro e w7 ⟨hb7, ⟨_, g7, cap7, rfl, hl7⟩ | ⟨hx, _⟩⟩
            · have c1 := conv_l (c := cap7) hl7
              have HB7 := Lib.hid (bl_trans HB6.out hb7)
              have c2 := conv_l (c := cp) (HL.out.1.below HB7.out)
              rw [← HF.out.2.2.2.2] at c1 c2
              clear hl7 hb7 x0 x1 x2 x3 HPP
              go_wp2_with fail
              go_ret
              exact ⟨rfl, bl_trans HB.out HB7.out⟩
            · cases hx
          · obtain ⟨W6, hW6⟩ : ∃ W6 : World, W6 = w5.alloc (.cells #[.int .i64 0, .int .i64 0, .slice none 0 0, .slice none 0 0] 25) := ⟨_, rfl⟩
            obtain ⟨b6, hb6⟩ : ∃ b6, b6 = w5.heap.size := ⟨_, rfl⟩
            have hbb6 : Below w5.heap.size w5 W6 := by rw [hW6]; exact bl_alloc _ _
            have hbx6 : W6.heap[b6]? = some (.cells #[.int .i64 0, .int .i64 0, .slice none 0 0, .slice none 0 0] 25 (0, 0)) := by rw [hW6, hb6]; exact heap_alloc_new w5 _
            have HW6 : Hid (w5.alloc (.cells #[.int .i64 0, .int .i64 0, .slice none 0 0, .slice none 0 0] 25) = W6 ∧ w5.heap.size = b6) := ⟨hW6.symm, hb6.symm⟩
            have HB6 : Hid (Below W.heap.size W W6) := bl_trans HB10.out (bl_trans hb5 hbb6)
            have x0 : W6.cell? ⟨b6, 0, none⟩ = some (.int .i64 0) := by rw [cell_of_row _ _ _ _ _ _ hbx6]; rfl
            have x1 : W6.cell? ⟨b6, 1, none⟩ = some (.int .i64 0) := by rw [cell_of_row _ _ _ _ _ _ hbx6]; rfl
            have x2 : W6.cell? ⟨b6, 2, none⟩ = some (.slice none 0 0) := by rw [cell_of_row _ _ _ _ _ _ hbx6]; rfl
            have x3 : W6.cell? ⟨b6, 3, none⟩ = some (.slice none 0 0) := by rw [cell_of_row _ _ _ _ _ _ hbx6]; rfl
            have HS : Hid (Calls Tryz.prog 13 #[.agg #[.int .i64 0, .int .i64 0, .slice none 0 0, .slice none 0 0], .agg #[.int .i64 0, .int .i64 0, .slice none 0 0, .slice none 0 0]] W6 (BoolL W6 true)) :=
              same_any ⟨0, 0, [], []⟩ none 0 none 0 none 0 none 0 W6 ⟨LiesAt.nil _ _ _ _, LiesAt.nil _ _ _ _, by simp, by simp⟩ ⟨LiesAt.nil _ _ _ _, LiesAt.nil _ _ _ _, by simp, by simp⟩
            unfold zeroT
            clear hno hW6 hb6 hbb6 hbx6 hb5 HGG z0 z1 z2 z3
            go_upto_region 12 with fail
            rw [HW6.out.1, HW6.out.2]
            go_wp2_with fail
            refine HS.out.mono ?_
            rintro e w7 ⟨rfl, hb7⟩
            have HB7 := Lib.hid (bl_trans HB6.out hb7)
            clear hb7 x0 x1 x2 x3 HS
            go_wp2_with fail
            go_ret
            exact ⟨rfl, bl_trans HB.out HB7.out⟩
        · have := hno t (back_yes HL3.out.2)
          rw [HL3.out.2] at this
          cases this
      · have HR := Lib.hid hr
        have e0 : ∀ X : Later w3, X.1.cell? ⟨q, 0, none⟩ = some (.int .i64 cl) := fun X => (HZ.out X.1 (bl_trans HB3.out X.2)).1
        have e1 : ∀ X : Later w3, X.1.cell? ⟨q, 1, none⟩ = some (.int .i64 num) := fun X => (HZ.out X.1 (bl_trans HB3.out X.2)).2.1
        have e2 : ∀ X : Later w3, X.1.cell? ⟨q, 2, none⟩ = some (.slice ra rn rc) := fun X => (HZ.out X.1 (bl_trans HB3.out X.2)).2.2.1
        have e3 : ∀ X : Later w3, X.1.cell? ⟨q, 3, none⟩ = some (.slice wa wn wc) := fun X => (HZ.out X.1 (bl_trans HB3.out X.2)).2.2.2
        have HCL : Hid (∀ X : Later w3, Calls Tryz.prog 11 #[.agg #[.int .i64 cl, .int .i64 num, .slice ra rn rc, .slice wa wn wc]] X.1 fun e w' => e = .returned (.iface 163 (.agg #[.string ⟨#[116, 120, 110]⟩, .int .i64 0, .iface 70 (.int .i64 101)])) ∧ Below X.1.heap.size X.1 w') := fun X => by
          have := HV.out _ X.1 _ (check_any t ra rc wa wc X.1 (HT3.out.below X.2))
          rw [HR.out] at this
          exact this
        have HE1 : errTx = .iface 163 (.agg #[.string ⟨#[116, 120, 110]⟩, .int .i64 0, .iface 70 (.int .i64 101)]) := rfl
        rw [HE1]
        clear hr z0 z1 z2 z3 HE1
        go_wp2_with fail
        have here := Later.here w3
        refine wp_region_later (by kernel_rfl) (by kernel_rfl) ?_
        iterate 6 (with_reducible refine wpQuiet_step (fun K hK => ?_); go_simp; first | (refine hK _ ?_; clear hK K) | (apply Exists.intro; refine ⟨fun X => ?_, hK _ ?_⟩; (go_at_call 11; with_reducible exact later_call (HCL.out _)); clear hK K))
        with_reducible refine wpQuiet_nil ?_
        intro X
        have hb4 : Below w3.heap.size w3 X.1 := X.2
        generalize X.1 = w4 at hb4 ⊢
        clear X
        have HB4 : Hid (Below W.heap.size W w4) := bl_trans HB3.out hb4
        have HT4 := Lib.hid (HT3.out.below hb4)
        clear e0 e1 e2 e3 here HCL
        obtain ⟨z0, z1, z2, z3⟩ := HZ.out w4 HB4.out
        clear hb4
        have HGT := get_any a cp l w4 (HL.out.1.below HB4.out) (by have := HN9.out; omega) HL.out.2
        rw [← HF.out.2.2.2.2] at HGT
        have HGG := Lib.hid HGT
        clear HGT
        go_wp2_with fail
        refine HGG.out.mono ?_
        rintro e w5 ⟨hb5, ⟨t5, ra5, rc5, wa5, wc5, hst5, hr5, rfl, hat5⟩ | ⟨hno, T5, v5, rfl⟩⟩
        · obtain ⟨cl5, hcl5⟩ : ∃ cl, cl = t5.cl := ⟨_, rfl⟩
          obtain ⟨num5, hnum5⟩ : ∃ num, num = t5.num := ⟨_, rfl⟩
          obtain ⟨rn5, hrn5⟩ : ∃ rn, rn = t5.R.length := ⟨_, rfl⟩
          obtain ⟨wn5, hwn5⟩ : ∃ wn, wn = t5.W.length := ⟨_, rfl⟩
          obtain ⟨W6, hW6⟩ : ∃ W6 : World, W6 = w5.alloc (.cells #[.int .i64 cl5, .int .i64 num5, .slice ra5 rn5 rc5, .slice wa5 wn5 wc5] 25) := ⟨_, rfl⟩
          obtain ⟨b6, hb6⟩ : ∃ b6, b6 = w5.heap.size := ⟨_, rfl⟩
          have hbb6 : Below w5.heap.size w5 W6 := by rw [hW6]; exact bl_alloc _ _
          have hbx6 : W6.heap[b6]? = some (.cells #[.int .i64 cl5, .int .i64 num5, .slice ra5 rn5 rc5, .slice wa5 wn5 wc5] 25 (0, 0)) := by rw [hW6, hb6]; exact heap_alloc_new w5 _
          have HW6 : Hid (w5.alloc (.cells #[.int .i64 cl5, .int .i64 num5, .slice ra5 rn5 rc5, .slice wa5 wn5 wc5] 25) = W6 ∧ w5.heap.size = b6) := ⟨hW6.symm, hb6.symm⟩
          have HB6 : Hid (Below W.heap.size W W6) := bl_trans HB4.out (bl_trans hb5 hbb6)
          have HT5 : Hid (txT t5 = l) := back_no hst5
          have x0 : W6.cell? ⟨b6, 0, none⟩ = some (.int .i64 cl5) := by rw [cell_of_row _ _ _ _ _ _ hbx6]; rfl
          have x1 : W6.cell? ⟨b6, 1, none⟩ = some (.int .i64 num5) := by rw [cell_of_row _ _ _ _ _ _ hbx6]; rfl
          have x2 : W6.cell? ⟨b6, 2, none⟩ = some (.slice ra5 rn5 rc5) := by rw [cell_of_row _ _ _ _ _ _ hbx6]; rfl
          have x3 : W6.cell? ⟨b6, 3, none⟩ = some (.slice wa5 wn5 wc5) := by rw [cell_of_row _ _ _ _ _ _ hbx6]; rfl
          have HP6 := put_any t5 ra5 rc5 wa5 wc5 W6 (hat5.below hbb6)
          unfold txV PutL at HP6
          rw [HT5.out, ← hcl5, ← hnum5, ← hrn5, ← hwn5, ← HF.out.2.2.2.2, hr5] at HP6
          have HPP := Lib.hid HP6
          unfold txV
          rw [← hcl5, ← hnum5, ← hrn5, ← hwn5]
          clear hcl5 hnum5 hrn5 hwn5 hW6 hb6 hbb6 hbx6 hst5 hr5 hat5 hb5 HP6 HGG z0 z1 z2 z3
          go_upto_region 12 with fail
          rw [HW6.out.1, HW6.out.2]
          go_wp2_with fail
          refine HPP.out.mono ?_
          rintro e w7 ⟨hb7, ⟨_, g7, cap7, rfl, hl7⟩ | ⟨hx, _⟩⟩
          · have c1 := conv_l (c := cap7) hl7
            have HB7 := Lib.hid (bl_trans HB6.out hb7)
            have c2 := conv_l (c := cp) (HL.out.1.below HB7.out)
            rw [← HF.out.2.2.2.2] at c1 c2
            clear hl7 hb7 x0 x1 x2 x3 HPP
            go_wp2_with fail
            go_ret
            exact ⟨rfl, bl_trans HB.out HB7.out⟩
          · cases hx
        · obtain ⟨W6, hW6⟩ : ∃ W6 : World, W6 = w5.alloc (.cells #[.int .i64 0, .int .i64 0, .slice none 0 0, .slice none 0 0] 25) := ⟨_, rfl⟩
          obtain ⟨b6, hb6⟩ : ∃ b6, b6 = w5.heap.size := ⟨_, rfl⟩
          have hbb6 : Below w5.heap.size w5 W6 := by rw [hW6]; exact bl_alloc _ _
          have hbx6 : W6.heap[b6]? = some (.cells #[.int .i64 0, .int .i64 0, .slice none 0 0, .slice none 0 0] 25 (0, 0)) := by rw [hW6, hb6]; exact heap_alloc_new w5 _
          have HW6 : Hid (w5.alloc (.cells #[.int .i64 0, .int .i64 0, .slice none 0 0, .slice none 0 0] 25) = W6 ∧ w5.heap.size = b6) := ⟨hW6.symm, hb6.symm⟩
          have HB6 : Hid (Below W.heap.size W W6) := bl_trans HB4.out (bl_trans hb5 hbb6)
          have x0 : W6.cell? ⟨b6, 0, none⟩ = some (.int .i64 0) := by rw [cell_of_row _ _ _ _ _ _ hbx6]; rfl
          have x1 : W6.cell? ⟨b6, 1, none⟩ = some (.int .i64 0) := by rw [cell_of_row _ _ _ _ _ _ hbx6]; rfl
          have x2 : W6.cell? ⟨b6, 2, none⟩ = some (.slice none 0 0) := by rw [cell_of_row _ _ _ _ _ _ hbx6]; rfl
          have x3 : W6.cell? ⟨b6, 3, none⟩ = some (.slice none 0 0) := by rw [cell_of_row _ _ _ _ _ _ hbx6]; rfl
          have HS : Hid (Calls Tryz.prog 13 #[.agg #[.int .i64 0, .int .i64 0, .slice none 0 0, .slice none 0 0], .agg #[.int .i64 0, .int .i64 0, .slice none 0 0, .slice none 0 0]] W6 (BoolL W6 true)) :=
            same_any ⟨0, 0, [], []⟩ none 0 none 0 none 0 none 0 W6 ⟨LiesAt.nil _ _ _ _, LiesAt.nil _ _ _ _, by simp, by simp⟩ ⟨LiesAt.nil _ _ _ _, LiesAt.nil _ _ _ _, by simp, by simp⟩
          unfold zeroT
          clear hno hW6 hb6 hbb6 hbx6 hb5 HGG z0 z1 z2 z3
          go_upto_region 12 with fail
          rw [HW6.out.1, HW6.out.2]
          go_wp2_with fail
          refine HS.out.mono ?_
          rintro e w7 ⟨rfl, hb7⟩
          have HB7 := Lib.hid (bl_trans HB6.out hb7)
          clear hb7 x0 x1 x2 x3 HS
          go_wp2_with fail
          go_ret
          exact ⟨rfl, bl_trans HB.out HB7.out⟩
end Go.Proofs.YtaifmfnmgnmgbaaGreatDoor.Txn
