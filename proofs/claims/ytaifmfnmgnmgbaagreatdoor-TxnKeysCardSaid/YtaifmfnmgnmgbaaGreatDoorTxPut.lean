/- Txn: a transaction's bytes are made. -/
import Derived.Test.YtaifmfnmgnmgbaaGreatDoorTxCheck
import Derived.Test.YtaifmfnmgnmgbaaGreatDoorTxNew
import Derived.Test.YtaifmfnmgnmgbaaGreatDoorTxGetT
import Derived.Test.YtaifmfnmgnmgbaaGreatDoorMkWrite
import Derived.Deep.DeepCutAuto
import Derived.Deep.CutBlock
namespace Go.Proofs.YtaifmfnmgnmgbaaGreatDoor.Txn
open Go.RowKit Go.My
open Go.Proofs.YtaifmfnmgnmgbaaGreatDoor.Merkle (uv be be_len txt txt_len ofL ofL_size WrAt WrLeft wtext_any wnum_any wbytes_any BytesLeft)

theorem str_bytes {w : World} (s : ByteArray) : Lib.Bytes (Lib.bytesWorld w 5 s) w.heap.size 0 s := fun i hi => by
  rw [Nat.zero_add, Lib.bytesWorld_cell w 5 s i hi]
  simp [List.getD, hi]
  rfl
theorem bytesWorld_below (w : World) (s : ByteArray) : Below w.heap.size w (Lib.bytesWorld w 5 s) := ⟨rfl, rfl, rfl, by rw [Lib.bytesWorld_size]; omega, fun k hk => Lib.bytesWorld_at_old w 5 s k hk⟩
/-- what the writer has, while others are kept -/
structure PtRel (B : Nat) (w0 : World) (l : List UInt8) (wr : World) : Prop where
  ex : ∃ u, WrAt wr B B u l
  below : Below B w0 wr
theorem PtRel.step {B : Nat} {w0 W w' : World} {u : Value} {l l' : List UInt8} (hb : Below B w0 W) (h : WrAt W B B u l) (hw : ∃ v, WrAt w' B B v l' ∧ Wrote (B :: u.ownBlock.toList) W w') : PtRel B w0 l' w' := by
  obtain ⟨v, h1, h2⟩ := hw
  refine ⟨⟨v, h1⟩, hb.trans (h2.below (Nat.le_of_lt h.lt) fun k hk => ?_)⟩
  rcases List.mem_cons.1 hk with rfl | hk
  · exact Nat.le_refl _
  · exact (row_block h.row (by simpa using hk)).1
theorem wr_keeps {B : Nat} {W w' : World} {u : Value} {l : List UInt8} (h : WrAt W B B u l) (hw : Wrote (B :: u.ownBlock.toList) W w') {q : Nat} {cs : Array Value} {t : TypeId} (hq : W.heap[q]? = some (.cells cs t (0, 0))) (ht : t ≠ 5) (hqB : q ≠ B) : w'.heap[q]? = some (.cells cs t (0, 0)) := by
  refine hw.heap hq fun hm => ?_
  rcases List.mem_cons.1 hm with e | hm
  · exact hqB e
  · obtain ⟨_, cur, hc⟩ := row_block h.row (g := q) (by simpa using hm)
    rw [hq] at hc
    cases hc
    exact ht rfl
theorem rd_len_le : ∀ L : List Rd, (∀ x ∈ L, x.key.size ≤ 16) → (L.flatMap rdT).length ≤ L.length * 28
  | [], _ => by simp
  | x :: L, h => by
    have := rd_len_le L (fun y hy => h y (by simp [hy]))
    have := h x (by simp)
    have hr : (rdT x).length = 12 + x.key.size := by unfold rdT; rw [List.length_append, txt_len, be_len]; omega
    rw [List.flatMap_cons, List.length_append, List.length_cons]
    omega
theorem wr_len_le : ∀ L : List Wr, (∀ x ∈ L, x.key.size ≤ 16 ∧ x.val.size ≤ 64) → (L.flatMap wrT).length ≤ L.length * 88
  | [], _ => by simp
  | x :: L, h => by
    have := wr_len_le L (fun y hy => h y (by simp [hy]))
    have := h x (by simp)
    have hr : (wrT x).length = 8 + x.key.size + x.val.size := by unfold wrT; rw [List.length_append, txt_len, txt_len]; omega
    rw [List.flatMap_cons, List.length_append, List.length_cons]
    omega
theorem rd_flat {t : Tx} (h : RightT t) : (t.R.flatMap rdT).length ≤ 300 := by
  have := rd_len_le t.R (fun x hx => (h.r x hx).1)
  have := h.rl
  omega
theorem rd_part {t : Tx} (h : RightT t) (j : Nat) : ((t.R.take j).flatMap rdT).length ≤ 300 := by
  have := rd_len_le (t.R.take j) (fun x hx => (h.r x (List.mem_of_mem_take hx)).1)
  have := h.rl
  have : (t.R.take j).length ≤ t.R.length := by rw [List.length_take]; omega
  omega
theorem wr_part {t : Tx} (h : RightT t) (j : Nat) : ((t.W.take j).flatMap wrT).length ≤ 1000 := by
  have := wr_len_le (t.W.take j) (fun x hx => h.w x (List.mem_of_mem_take hx))
  have := h.wl
  have : (t.W.take j).length ≤ t.W.length := by rw [List.length_take]; omega
  omega
/-- what Put tells -/
def PutL (w : World) (t : Tx) (e : Ending) (w' : World) : Prop :=
  Below w.heap.size w w' ∧ ((rightT t = true ∧ ∃ g cap, e = .returned (.tuple #[.slice (some ⟨g, 0, none⟩) (txT t).length cap, .nilIface]) ∧ LiesAt w' (some ⟨g, 0, none⟩) 1 uvL (txT t)) ∨
    (rightT t = false ∧ e = .returned (.tuple #[.slice none 0 0, errTx])))
theorem lies_of_bytes {w : World} {g : Nat} {l : List UInt8} (h : Lib.Bytes w g 0 (ofL l)) (hg : g < w.heap.size) : LiesAt w (some ⟨g, 0, none⟩) 1 uvL l := by
  intro i x hi
  have hil := (List.getElem?_eq_some_iff.1 hi).1
  refine ⟨g, 0, rfl, hg, fun j v hj => ?_⟩
  have := h i (by rw [ofL_size]; exact hil)
  rw [Nat.mul_one]
  cases j with
  | zero =>
    have e : v = uv x := by simpa [uvL] using hj.symm
    rw [e, Nat.add_zero, this]
    have hx := (List.getElem?_eq_some_iff.1 hi).2
    rw [← hx]
    rfl
  | succ j => simp [uvL] at hj
set_option maxRecDepth 100000 in
set_option maxHeartbeats 6400000 in
theorem put_any (t : Tx) (ra : Option Addr) (rc : Nat) (wa : Option Addr) (wc : Nat) (w : World) (h : TxAt w t ra wa) :
    Calls Tryz.prog 10 #[txV t ra rc wa wc] w (PutL w t) := by
  obtain ⟨W, hW⟩ : ∃ W : World, W = w.alloc (.cells #[.int .i64 t.cl, .int .i64 t.num, .slice ra t.R.length rc, .slice wa t.W.length wc] 25) := ⟨_, rfl⟩
  obtain ⟨q, hq⟩ : ∃ q, q = w.heap.size := ⟨_, rfl⟩
  have hb : Below w.heap.size w W := by rw [hW]; exact bl_alloc _ _
  have hbx : W.heap[q]? = some (txC t ra rc wa wc) := by rw [hW, hq]; exact heap_alloc_new w _
  have HW : Hid (w.alloc (.cells #[.int .i64 t.cl, .int .i64 t.num, .slice ra t.R.length rc, .slice wa t.W.length wc] 25) = W ∧ w.heap.size = q) := ⟨hW.symm, hq.symm⟩
  have HB := Lib.hid hb
  have HBX := Lib.hid hbx
  have HT := Lib.hid (h.below hb)
  have HC := check_any t ra rc wa wc W (h.below hb)
  obtain ⟨z0, z1, z2, z3⟩ := txC_cell hbx
  unfold txV at HC ⊢
  have HCC := Lib.hid HC
  have hcv := fun (W : World) (s : ByteArray) => Lib.run_convert_string_bytes (P := Tryz.prog) W 9 26 5 s Tryz.underlying9 Tryz.underlying26 Tryz.underlying5
  obtain ⟨cl, hcl⟩ : ∃ cl, cl = t.cl := ⟨_, rfl⟩
  obtain ⟨num, hnum⟩ : ∃ num, num = t.num := ⟨_, rfl⟩
  obtain ⟨rn, hrn⟩ : ∃ rn, rn = t.R.length := ⟨_, rfl⟩
  obtain ⟨wn, hwn⟩ : ∃ wn, wn = t.W.length := ⟨_, rfl⟩
  have HF : Hid (cl = t.cl ∧ num = t.num ∧ rn = t.R.length ∧ wn = t.W.length) := ⟨hcl, hnum, hrn, hwn⟩
  rw [← hcl] at z0
  rw [← hnum] at z1
  rw [← hrn] at z2
  rw [← hwn] at z3
  rw [← hcl, ← hnum, ← hrn, ← hwn] at HW HCC ⊢
  clear h hW hq hb hbx hcl hnum hrn hwn HC
  go_enter Tryz.func10, Tryz.ntmps10
  go_upto_region 1 with fail
  rw [HW.out.1, HW.out.2]
  go_wp2_with fail
  refine HCC.out.mono ?_
  rintro e w1 ⟨rfl, hb1⟩
  have hx1 : w1.heap[q]? = some (txC t ra rc wa wc) := (hb1.block _ (lt_of_heap HBX.out)).trans HBX.out
  have H1 : Hid (Below w.heap.size w w1 ∧ w1.heap[q]? = some (txC t ra rc wa wc) ∧ TxAt w1 t ra wa) := ⟨bl_trans HB.out hb1, hx1, HT.out.below hb1⟩
  clear hb1 z0 z1 z2 z3 HCC hx1
  cases hr : rightT t with
  | false =>
    have HR := Lib.hid hr
    have HE1 : errOfT false = .iface 163 (.agg #[.string ⟨#[116, 120, 110]⟩, .int .i64 0, .iface 70 (.int .i64 101)]) := rfl
    rw [HE1]
    clear hr HE1
    go_wp2_with fail
    go_ret2
    exact ⟨H1.out.1, .inr ⟨HR.out, rfl⟩⟩
  | true =>
    have HR := Lib.hid hr
    have HRT := Lib.hid (rightT_of hr)
    have HE1 : errOfT true = .nilIface := rfl
    rw [HE1]
    have hrn8 : (rn : Int) ≤ 8 := by have := HRT.out.rl; have := HF.out; omega
    have hwn8 : (wn : Int) ≤ 8 := by have := HRT.out.wl; have := HF.out; omega
    clear hr HE1
    obtain ⟨W2, hW2⟩ : ∃ W2 : World, W2 = w1.alloc (.cells #[.slice none 0 0, .nilIface] 74) := ⟨_, rfl⟩
    obtain ⟨B, hB⟩ : ∃ B, B = w1.heap.size := ⟨_, rfl⟩
    have P2 : Hid (PtRel B w1 [] W2) := by
      refine ⟨⟨.slice none 0 0, ⟨by rw [hW2, hB]; exact heap_alloc_new w1 _, World.ownsRow_nil _ _ _ _, Nat.le_refl _⟩⟩, by rw [hW2, hB]; exact bl_alloc _ _⟩
    have HW2 : Hid (w1.alloc (.cells #[.slice none 0 0, .nilIface] 74) = W2 ∧ w1.heap.size = B) := ⟨hW2.symm, hB.symm⟩
    have HBC : Hid (∀ X, Below B w1 X → X.heap[q]? = some (txC t ra rc wa wc) ∧ TxAt X t ra wa) := fun X hX => by
      have h2 := HW2.out.2
      exact ⟨(hX.block _ (by rw [← h2]; exact lt_of_heap H1.out.2.1)).trans H1.out.2.1, H1.out.2.2.below (by rw [h2]; exact hX)⟩
    have HQC : Hid (∀ X, Below B w1 X → X.cell? ⟨q, 0, none⟩ = some (.int .i64 cl) ∧ X.cell? ⟨q, 1, none⟩ = some (.int .i64 num) ∧ X.cell? ⟨q, 2, none⟩ = some (.slice ra rn rc) ∧ X.cell? ⟨q, 3, none⟩ = some (.slice wa wn wc)) := fun X hX => by
      obtain ⟨a1, a2, a3, a4⟩ := txC_cell (HBC.out X hX).1
      rw [← HF.out.1] at a1
      rw [← HF.out.2.1] at a2
      rw [← HF.out.2.2.1] at a3
      rw [← HF.out.2.2.2] at a4
      exact ⟨a1, a2, a3, a4⟩
    have HQB : Hid (q < B) := by rw [← HW2.out.2]; exact lt_of_heap H1.out.2.1
    clear hW2 hB
    go_upto_region 5 with fail
    rw [HW2.out.1, HW2.out.2]
    obtain ⟨z0, z1, z2, z3⟩ := HQC.out W2 P2.out.below
    obtain ⟨u2, h2⟩ := P2.out.ex
    have H2 := Lib.hid h2
    clear h2
    go_wp2_with fail
    refine (wnum_any B B u2 [] cl W2 H2.out (by simp)).mono ?_
    rintro e w3 ⟨rfl, hwr⟩
    have P3 : Hid (PtRel B w1 ([] ++ be 8 cl) w3) := PtRel.step P2.out.below H2.out hwr
    clear hwr z0 z1 z2 z3
    obtain ⟨z0, z1, z2, z3⟩ := HQC.out w3 P3.out.below
    obtain ⟨u3, h3⟩ := P3.out.ex
    have H3 := Lib.hid h3
    clear h3
    go_wp2_with fail
    refine (wnum_any B B u3 _ num w3 H3.out (by simp [be_len])).mono ?_
    rintro e w4 ⟨rfl, hwr⟩
    have P4 : Hid (PtRel B w1 ([] ++ be 8 cl ++ be 8 num) w4) := PtRel.step P3.out.below H3.out hwr
    clear hwr z0 z1 z2 z3
    obtain ⟨z0, z1, z2, z3⟩ := HQC.out w4 P4.out.below
    obtain ⟨u4, h4⟩ := P4.out.ex
    have H4 := Lib.hid h4
    clear h4
    go_wp2_with fail
    refine (wnum_any B B u4 _ (rn : Int) w4 H4.out (by simp [be_len])).mono ?_
    rintro e w5 ⟨rfl, hwr⟩
    obtain ⟨p5, hp5⟩ : ∃ p5, p5 = [] ++ be 8 cl ++ be 8 num ++ be 8 (rn : Int) := ⟨_, rfl⟩
    have HP5 : Hid (p5 = [] ++ be 8 cl ++ be 8 num ++ be 8 (rn : Int) ∧ p5.length = 24) := ⟨hp5, by rw [hp5]; simp [be_len]⟩
    have P5 : Hid (PtRel B w1 (p5 ++ (t.R.take 0).flatMap rdT) w5) := by
      have := PtRel.step P4.out.below H4.out hwr
      rw [← hp5] at this
      show PtRel _ _ _ _
      simpa using this
    clear hwr z0 z1 z2 z3 hp5
    obtain ⟨z0, z1, z2, z3⟩ := HQC.out w5 P5.out.below
    go_wp2_with fail
    go_loopw [35] (fun i wr => ∃ j : Nat, j ≤ rn ∧ i = .int .i64 j ∧ Hid (PtRel B w1 (p5 ++ (t.R.take j).flatMap rdT) wr)) (fun i _ => rn - (intOf i).toNat)
    case atStart => exact ⟨0, by omega, rfl, P5⟩
    case round =>
      clear P5 z0 z1 z2 z3
      obtain ⟨j, hj, rfl, HJ⟩ := hrel
      by_cases hlt : j < rn
      · obtain ⟨⟨xk, xv⟩, hx⟩ : ∃ x, t.R[j]? = some x := ⟨_, List.getElem?_eq_getElem (by have := HF.out; omega)⟩
        obtain ⟨g, o, rfl, lg, hcl⟩ := (HBC.out wr HJ.out.below).2.r j _ hx
        have k0 := hcl 0 _ rfl
        have k1 := hcl 1 _ rfl
        simp only [Nat.add_zero] at k0 k1
        have HXJ := Lib.hid hx
        have hj0 : (0 : Int) ≤ (j : Int) := by omega
        have hj1 : (j : Int) < (rn : Int) := by omega
        have HSZ : Hid (xk.size ≤ 16) := (HRT.out.r _ (List.mem_of_getElem? hx)).1
        have HLJ : Hid ((p5 ++ (t.R.take j).flatMap rdT).length ≤ 8000) := by
          show _ ≤ _
          rw [List.length_append, HP5.out.2]
          have := rd_part HRT.out j
          omega
        obtain ⟨W, hW⟩ : ∃ W : World, W = wr.alloc (.cells #[.string xk, .int .i64 xv] 53) := ⟨_, rfl⟩
        obtain ⟨bq, hbq⟩ : ∃ bq, bq = wr.heap.size := ⟨_, rfl⟩
        have hb : Below wr.heap.size wr W := by rw [hW]; exact bl_alloc _ _
        have hbx : W.heap[bq]? = some (.cells #[.string xk, .int .i64 xv] 53 (0, 0)) := by rw [hW, hbq]; exact heap_alloc_new wr _
        have HWW : Hid (wr.alloc (.cells #[.string xk, .int .i64 xv] 53) = W ∧ wr.heap.size = bq) := ⟨hW.symm, hbq.symm⟩
        have e0 : W.cell? ⟨bq, 0, none⟩ = some (.string xk) := by rw [cell_of_row _ _ _ _ _ _ hbx]; rfl
        obtain ⟨u, hwr⟩ := HJ.out.ex
        have hBw := hwr.lt
        have hbw : Below W.heap.size W (Lib.bytesWorld W 5 xk) := bytesWorld_below W xk
        have HWR : Hid (WrAt (Lib.bytesWorld W 5 xk) B B u (p5 ++ (t.R.take j).flatMap rdT)) := (hwr.below hb).below hbw
        have HBB : Hid (Below B w1 (Lib.bytesWorld W 5 xk) ∧ bq ≠ B ∧ (Lib.bytesWorld W 5 xk).heap[bq]? = some (.cells #[.string xk, .int .i64 xv] 53 (0, 0))) :=
          ⟨HJ.out.below.trans ((bl_trans hb hbw).mono (Nat.le_of_lt hBw)), by omega, (hbw.block _ (lt_of_heap hbx)).trans hbx⟩
        have HT1 := Lib.hid (wtext_any B B u _ W.heap.size (grownCap W xk.size 0 5) xk (Lib.bytesWorld W 5 xk) HWR.out (str_bytes xk) (by rw [Lib.bytesWorld_size]; omega) (fun e => by have h1 := Merkle.row_lt hwr.row _ e; have h2 := hb.size; omega) (by have := HSZ.out; omega) (by have := HLJ.out; omega))
        clear hx hcl lg hW hbq hb hbx hwr hBw hbw
        go_upto_region 11 with fail
        rw [HWW.out.1, HWW.out.2]
        clear k0 k1
        go_wp2_with fail
        refine HT1.out.mono ?_
        rintro e w3 ⟨rfl, hwr3⟩
        have P3 : Hid (PtRel B w1 (p5 ++ (t.R.take j).flatMap rdT ++ txt xk) w3) := PtRel.step HBB.out.1 HWR.out hwr3
        have hbx3 : w3.heap[bq]? = some (.cells #[.string xk, .int .i64 xv] 53 (0, 0)) := by
          obtain ⟨_, _, hw3⟩ := hwr3
          exact wr_keeps HWR.out hw3 HBB.out.2.2 (by decide) HBB.out.2.1
        have e1 : w3.cell? ⟨bq, 1, none⟩ = some (.int .i64 xv) := by rw [cell_of_row _ _ _ _ _ _ hbx3]; rfl
        obtain ⟨u3, hu3⟩ := P3.out.ex
        have HL3 : Hid ((p5 ++ (t.R.take j).flatMap rdT ++ txt xk).length ≤ 9000) := by
          show _ ≤ _
          rw [List.length_append, txt_len]
          have := HLJ.out
          have := HSZ.out
          omega
        have HU3 := Lib.hid hu3
        clear hwr3 hu3 e0 HT1 hbx3
        go_wp2_with fail
        refine (wnum_any B B u3 _ xv w3 HU3.out (by have := HL3.out; omega)).mono ?_
        rintro e w4 ⟨rfl, hwr4⟩
        have HNX : Hid (PtRel B w1 (p5 ++ (t.R.take (j + 1)).flatMap rdT) w4) := by
          have := PtRel.step P3.out.below HU3.out hwr4
          rw [List.take_add_one, HXJ.out, List.flatMap_append]
          show PtRel _ _ _ _
          simpa [rdT] using this
        clear hwr4 e1
        go_wp2_with fail
        exact ⟨⟨j + 1, by omega, by simp, HNX⟩, by simp [intOf]; omega⟩
      · obtain rfl : rn = j := by omega
        have HALL : Hid (t.R.take rn = t.R) := List.take_of_length_le (by have := HF.out; omega)
        have P6 : Hid (PtRel B w1 (p5 ++ t.R.flatMap rdT) wr) := by have := HJ.out; rw [HALL.out] at this; exact this
        have hl6 : (p5 ++ t.R.flatMap rdT).length ≤ 3000 := by rw [List.length_append, HP5.out.2]; have := rd_flat HRT.out; omega
        obtain ⟨p6, hp6⟩ : ∃ p6, p6 = p5 ++ t.R.flatMap rdT := ⟨_, rfl⟩
        rw [← hp6] at P6 hl6
        have HP6 : Hid (p6 = p5 ++ t.R.flatMap rdT ∧ p6.length ≤ 3000) := ⟨hp6, hl6⟩
        obtain ⟨z0, z1, z2, z3⟩ := HQC.out wr P6.out.below
        obtain ⟨u6, h6⟩ := P6.out.ex
        have H6 := Lib.hid h6
        clear h6 hp6 HJ hl6 hlt
        go_wp2_with fail
        refine (wnum_any B B u6 _ (wn : Int) wr H6.out (by have := HP6.out.2; omega)).mono ?_
        rintro e w7 ⟨rfl, hwr⟩
        obtain ⟨p7, hp7⟩ : ∃ p7, p7 = p6 ++ be 8 (wn : Int) := ⟨_, rfl⟩
        have HP7 : Hid (p7 = p6 ++ be 8 (wn : Int) ∧ p7.length ≤ 3008) := ⟨hp7, by rw [hp7, List.length_append, be_len]; have := HP6.out.2; omega⟩
        have P7 : Hid (PtRel B w1 (p7 ++ (t.W.take 0).flatMap wrT) w7) := by
          have := PtRel.step P6.out.below H6.out hwr
          rw [← hp7] at this
          show PtRel _ _ _ _
          simpa using this
        clear hwr z0 z1 z2 z3 hp7
        obtain ⟨z0, z1, z2, z3⟩ := HQC.out w7 P7.out.below
        go_wp2_with fail
        go_loopw [57] (fun i wr => ∃ j : Nat, j ≤ wn ∧ i = .int .i64 j ∧ Hid (PtRel B w1 (p7 ++ (t.W.take j).flatMap wrT) wr)) (fun i _ => wn - (intOf i).toNat)
        case atStart => exact ⟨0, by omega, rfl, P7⟩
        case round =>
          clear P7 z0 z1 z2 z3
          obtain ⟨j, hj, rfl, HJ⟩ := hrel
          by_cases hlt : j < wn
          · obtain ⟨⟨xk, xv⟩, hx⟩ : ∃ x, t.W[j]? = some x := ⟨_, List.getElem?_eq_getElem (by have := HF.out; omega)⟩
            obtain ⟨g, o, rfl, lg, hcl⟩ := (HBC.out wr HJ.out.below).2.w j _ hx
            have k0 := hcl 0 _ rfl
            have k1 := hcl 1 _ rfl
            simp only [Nat.add_zero] at k0 k1
            have HXJ := Lib.hid hx
            have hj0 : (0 : Int) ≤ (j : Int) := by omega
            have hj1 : (j : Int) < (wn : Int) := by omega
            have HSZ : Hid (xk.size ≤ 16) := (HRT.out.w _ (List.mem_of_getElem? hx)).1
            have HSV : Hid (xv.size ≤ 64) := (HRT.out.w _ (List.mem_of_getElem? hx)).2
            have HLJ : Hid ((p7 ++ (t.W.take j).flatMap wrT).length ≤ 8000) := by
              show _ ≤ _
              rw [List.length_append]
              have := wr_part HRT.out j
              have := HP7.out.2
              omega
            obtain ⟨W, hW⟩ : ∃ W : World, W = wr.alloc (.cells #[.string xk, .string xv] 48) := ⟨_, rfl⟩
            obtain ⟨bq, hbq⟩ : ∃ bq, bq = wr.heap.size := ⟨_, rfl⟩
            have hb : Below wr.heap.size wr W := by rw [hW]; exact bl_alloc _ _
            have hbx : W.heap[bq]? = some (.cells #[.string xk, .string xv] 48 (0, 0)) := by rw [hW, hbq]; exact heap_alloc_new wr _
            have HWW : Hid (wr.alloc (.cells #[.string xk, .string xv] 48) = W ∧ wr.heap.size = bq) := ⟨hW.symm, hbq.symm⟩
            have e0 : W.cell? ⟨bq, 0, none⟩ = some (.string xk) := by rw [cell_of_row _ _ _ _ _ _ hbx]; rfl
            obtain ⟨u, hwr⟩ := HJ.out.ex
            have hBw := hwr.lt
            have hbw : Below W.heap.size W (Lib.bytesWorld W 5 xk) := bytesWorld_below W xk
            have HWR : Hid (WrAt (Lib.bytesWorld W 5 xk) B B u (p7 ++ (t.W.take j).flatMap wrT)) := (hwr.below hb).below hbw
            have HBB : Hid (Below B w1 (Lib.bytesWorld W 5 xk) ∧ bq ≠ B ∧ (Lib.bytesWorld W 5 xk).heap[bq]? = some (.cells #[.string xk, .string xv] 48 (0, 0))) :=
              ⟨HJ.out.below.trans ((bl_trans hb hbw).mono (Nat.le_of_lt hBw)), by omega, (hbw.block _ (lt_of_heap hbx)).trans hbx⟩
            have HT1 := Lib.hid (wtext_any B B u _ W.heap.size (grownCap W xk.size 0 5) xk (Lib.bytesWorld W 5 xk) HWR.out (str_bytes xk) (by rw [Lib.bytesWorld_size]; omega) (fun e => by have h1 := Merkle.row_lt hwr.row _ e; have h2 := hb.size; omega) (by have := HSZ.out; omega) (by have := HLJ.out; omega))
            clear hx hcl lg hW hbq hb hbx hwr hBw hbw
            go_upto_region 18 with fail
            rw [HWW.out.1, HWW.out.2]
            clear k0 k1
            go_wp2_with fail
            refine HT1.out.mono ?_
            rintro e w3 ⟨rfl, hwr3⟩
            have P3 : Hid (PtRel B w1 (p7 ++ (t.W.take j).flatMap wrT ++ txt xk) w3) := PtRel.step HBB.out.1 HWR.out hwr3
            have hbx3 : w3.heap[bq]? = some (.cells #[.string xk, .string xv] 48 (0, 0)) := by
              obtain ⟨_, _, hw3⟩ := hwr3
              exact wr_keeps HWR.out hw3 HBB.out.2.2 (by decide) HBB.out.2.1
            have e1 : w3.cell? ⟨bq, 1, none⟩ = some (.string xv) := by rw [cell_of_row _ _ _ _ _ _ hbx3]; rfl
            obtain ⟨u3, hu3⟩ := P3.out.ex
            have HL3 : Hid ((p7 ++ (t.W.take j).flatMap wrT ++ txt xk).length ≤ 9000) := by
              show _ ≤ _
              rw [List.length_append, txt_len]
              have := HLJ.out
              have := HSZ.out
              omega
            have HU3 := Lib.hid hu3
            clear hwr3 hu3 e0 HT1 hbx3
            have HB3 : Hid (Below B w1 (Lib.bytesWorld w3 5 xv)) := P3.out.below.trans ((bytesWorld_below w3 xv).mono (Nat.le_of_lt HU3.out.lt))
            have HU4 : Hid (WrAt (Lib.bytesWorld w3 5 xv) B B u3 (p7 ++ (t.W.take j).flatMap wrT ++ txt xk)) := HU3.out.below (bytesWorld_below w3 xv)
            have HT4 := Lib.hid (wtext_any B B u3 _ w3.heap.size (grownCap w3 xv.size 0 5) xv (Lib.bytesWorld w3 5 xv) HU4.out (str_bytes xv) (by rw [Lib.bytesWorld_size]; omega) (fun e => by have h1 := Merkle.row_lt HU3.out.row _ e; omega) (by have := HSV.out; omega) (by have := HL3.out; omega))
            go_wp2_with fail
            refine HT4.out.mono ?_
            rintro e w4 ⟨rfl, hwr4⟩
            have HNX : Hid (PtRel B w1 (p7 ++ (t.W.take (j + 1)).flatMap wrT) w4) := by
              have := PtRel.step HB3.out HU4.out hwr4
              rw [List.take_add_one, HXJ.out, List.flatMap_append]
              show PtRel _ _ _ _
              simpa [wrT] using this
            clear hwr4 e1
            go_wp2_with fail
            exact ⟨⟨j + 1, by omega, by simp, HNX⟩, by simp [intOf]; omega⟩
          · obtain rfl : wn = j := by omega
            have HALW : Hid (t.W.take wn = t.W) := List.take_of_length_le (by have := HF.out; omega)
            have P8 : Hid (PtRel B w1 (txT t) wr) := by
              have := HJ.out
              rw [HALW.out, HP7.out.1, HP6.out.1, HP5.out.1, HF.out.1, HF.out.2.1, HF.out.2.2.1, HF.out.2.2.2] at this
              unfold txT
              show PtRel _ _ _ _
              simpa using this
            have HLT := Lib.hid (txT_len HRT.out)
            obtain ⟨u8, h8⟩ := P8.out.ex
            have H8 := Lib.hid h8
            have HBY := Lib.hid (wbytes_any B B u8 (txT t) wr h8 (by unfold txT; rw [List.length_append, be_len]; omega) (by have := HLT.out; omega))
            clear h8 HJ hlt
            go_wp2_with fail
            refine HBY.out.mono ?_
            rintro e w9 ⟨g, cap, rfl, hg1, hg2, hby, hb9⟩
            have HFIN : Hid (LiesAt w9 (some ⟨g, 0, none⟩) 1 uvL (txT t) ∧ Below w.heap.size w w9) := by
              have h1 := P8.out.below
              have h2 := HW2.out.2
              refine ⟨lies_of_bytes hby hg2, H1.out.1.trans ?_⟩
              exact (h1.mono (by rw [← h2]; exact H1.out.1.size)).trans (hb9.mono (Nat.le_trans H1.out.1.size h1.size))
            have HWN := Lib.hid (twrap_no w9)
            clear hg1 hg2 hby hb9 HBY
            go_wp2_with (go_at_call 30; refine HWN.out.mono ?_; rintro e w' ⟨rfl, rfl⟩)
            go_ret2
            exact ⟨HFIN.out.2, .inl ⟨HR.out, g, cap, rfl, HFIN.out.1⟩⟩
end Go.Proofs.YtaifmfnmgnmgbaaGreatDoor.Txn
