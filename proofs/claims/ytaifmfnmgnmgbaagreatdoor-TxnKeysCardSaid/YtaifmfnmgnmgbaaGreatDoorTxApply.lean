/- Txn: what Apply leaves. -/
import Derived.Test.YtaifmfnmgnmgbaaGreatDoorTxFits
import Derived.Test.YtaifmfnmgnmgbaaGreatDoorTxKeys
import Derived.Test.YtaifmfnmgnmgbaaGreatDoorSplain
import Derived.Test.YtaifmfnmgnmgbaaGreatDoorTxGetT
namespace Go.Proofs.YtaifmfnmgnmgbaaGreatDoor.Txn
open Go.RowKit Go.My

def applyL : List Ent → List Wr → Option (List Ent)
  | L, [] => some L
  | L, x :: M => if badArg L x.key x.val || full L x.key then none else applyL (joinE L [newE L x.key x.val]) M
theorem apply_ok : ∀ {M : List Wr} {L L' : List Ent}, OfOK L → applyL L M = some L' → OfOK L'
  | [], L, L', h, e => by cases e; exact h
  | x :: M, L, L', h, e => by
    rw [applyL] at e
    split at e
    · cases e
    · rename_i hn
      have hb : badArg L x.key x.val = false := by cases hb : badArg L x.key x.val with | false => rfl | true => rw [hb] at hn; simp at hn
      have hf : full L x.key = false := by cases hf : full L x.key with | false => rfl | true => rw [hf] at hn; simp at hn
      exact apply_ok (ok_put h hb hf) e
theorem apply_snoc : ∀ {M : List Wr} {L : List Ent} {x : Wr}, applyL L (M ++ [x]) = (applyL L M).bind fun L' => if badArg L' x.key x.val || full L' x.key then none else some (joinE L' [newE L' x.key x.val])
  | [], L, x => by simp only [List.nil_append, applyL, Option.bind_some]
  | y :: M, L, x => by
    rw [List.cons_append, applyL, applyL]
    split
    · rfl
    · exact apply_snoc
theorem apply_none_more : ∀ {M N : List Wr} {L : List Ent}, applyL L M = none → applyL L (M ++ N) = none
  | [], _, L, h => by cases h
  | y :: M, N, L, h => by
    rw [List.cons_append, applyL]
    rw [applyL] at h
    split
    · rfl
    · rename_i hn
      rw [if_neg hn] at h
      exact apply_none_more h
theorem below_wrote {w w' : World} (p : Nat) (h : Below w.heap.size w w') : Wrote [p] w w' := ⟨h.os, h.tape, h.output, h.size, fun k hk _ => h.block k hk⟩
theorem store_ne {w : World} {p g k : Nat} {a : Option Addr} {cap : Nat} {L : List Ent} {s : ByteArray} (h : StoreAt w p a cap L) (hc : w.cell? ⟨g, k, none⟩ = some (.string s)) : g ≠ p := by
  rintro rfl
  rw [cell_of_row _ _ _ _ _ _ h.cell] at hc
  cases k with
  | zero => simp at hc
  | succ k => simp at hc
theorem wrote_lies {w w' : World} {p : Nat} {a : Option Addr} {cap : Nat} {L : List Ent} {b : Option Addr} {l : List Wr} (hs : StoreAt w p a cap L) (hw : Wrote [p] w w') (h : LiesAt w b 2 wrL l) : LiesAt w' b 2 wrL l := fun i x hi => by
  obtain ⟨g, o, e, hg, hc⟩ := h i x hi
  have hne : g ≠ p := store_ne hs (hc 0 _ rfl)
  refine ⟨g, o, e, Nat.lt_of_lt_of_le hg hw.size, fun j v hj => ?_⟩
  rw [Wrote.cell hw (p := ⟨g, _, none⟩) hg (by simpa using hne)]
  exact hc j v hj
/-- what Apply leaves -/
def ApL (w : World) (p : Nat) (L : List Ent) (M : List Wr) (e : Ending) (w' : World) : Prop :=
  Wrote [p] w w' ∧
  ((∃ L' a cap, applyL L M = some L' ∧ e = .returned .nilIface ∧ OfOK L' ∧ StoreAt w' p a cap L') ∨
   (applyL L M = none ∧ (∃ T v, e = .returned (.iface T v)) ∧ ∃ L' a cap, OfOK L' ∧ StoreAt w' p a cap L'))
structure ApRel (W : World) (p : Nat) (L : List Ent) (M : List Wr) (oa : Option Addr) (j : Nat) (wr : World) : Prop where
  wrote : Wrote [p] W wr
  row : LiesAt wr oa 2 wrL M
  st : ∃ L' a cap, applyL L (M.take j) = some L' ∧ OfOK L' ∧ StoreAt wr p a cap L'
set_option maxRecDepth 100000 in
set_option maxHeartbeats 6400000 in
theorem apply_any (t : Tx) (ra : Option Addr) (rc : Nat) (wa : Option Addr) (wc : Nat) (p : Nat) (a : Option Addr) (cap : Nat) (L : List Ent) (ka : Option Addr) (kc : Nat) (K : List ByteArray) (w : World) (h : TxAt w t ra wa) (hn2 : wa = none → wc = 0)
    (hs : StoreAt w p a cap L) (hO : OfOK L) (hK : LiesAt w ka 1 strL K) (hk9 : K.length ≤ 100000) :
    Calls Tryz.prog 17 #[txV t ra rc wa wc, .pointer (some ⟨p, 0, none⟩), .slice ka K.length kc] w (ApL w p L (t.W.filter (pRWr K))) := by
  obtain ⟨W, hW⟩ : ∃ W : World, W = w.alloc (.cells #[.int .i64 t.cl, .int .i64 t.num, .slice ra t.R.length rc, .slice wa t.W.length wc] 25) := ⟨_, rfl⟩
  obtain ⟨q, hq⟩ : ∃ q, q = w.heap.size := ⟨_, rfl⟩
  have hb : Below w.heap.size w W := by rw [hW]; exact bl_alloc _ _
  have hbx : W.heap[q]? = some (txC t ra rc wa wc) := by rw [hW, hq]; exact heap_alloc_new w _
  have HW : Hid (w.alloc (.cells #[.int .i64 t.cl, .int .i64 t.num, .slice ra t.R.length rc, .slice wa t.W.length wc] 25) = W ∧ w.heap.size = q) := ⟨hW.symm, hq.symm⟩
  have HB : Hid (Wrote [p] w W) := below_wrote p hb
  have HST := Lib.hid (And.intro (hs.below hb) hO)
  have HO1 : Hid (Calls Tryz.prog 47 #[.slice wa t.W.length wc, .func (.func 48) #[] #[], .slice ka K.length kc] W (OwWr W K t.W)) := own_wr wa wc t.W ka kc K W (h.below hb).w h.wl hn2 (hK.below hb) hk9
  obtain ⟨z0, z1, z2, z3⟩ := txC_cell hbx
  unfold txV
  obtain ⟨rn, hrn⟩ : ∃ rn, rn = t.R.length := ⟨_, rfl⟩
  obtain ⟨wn, hwn⟩ : ∃ wn, wn = t.W.length := ⟨_, rfl⟩
  obtain ⟨kn, hkn⟩ : ∃ kn, kn = K.length := ⟨_, rfl⟩
  obtain ⟨M, hM⟩ : ∃ M, M = t.W.filter (pRWr K) := ⟨_, rfl⟩
  obtain ⟨m, hm⟩ : ∃ m, m = M.length := ⟨_, rfl⟩
  have HM : Hid (M = t.W.filter (pRWr K) ∧ m = M.length) := ⟨hM, hm⟩
  have hm9 : m ≤ 100000 := by rw [hm, hM]; exact Nat.le_trans (List.length_filter_le _ _) h.wl
  rw [← hwn] at z3
  unfold OwWr at HO1
  rw [← hwn, ← hkn, ← hM, ← hm] at HO1
  rw [← hrn, ← hwn] at HW
  rw [← hrn, ← hwn, ← hkn, ← hM]
  have hmi : (m : Int) ≤ 100000 := by omega
  clear h hW hq hb hbx hrn hwn hkn hs hO hK hk9 hn2 hM hm hm9
  go_enter Tryz.func17, Tryz.ntmps17
  go_upto_region 1 with fail
  rw [HW.out.1, HW.out.2]
  go_wp2_with fail
  refine HO1.out.mono ?_
  rintro e w1 ⟨oa, oc, rfl, hol, hob⟩
  have P15 : Hid (ApRel W p L M oa 0 w1) := ⟨below_wrote p hob, hol, L, _, _, rfl, HST.out.2, HST.out.1.below hob⟩
  clear hol hob z0 z1 z2 z3 HO1
  go_wp2_with fail
  go_loopw [15] (fun i wr => ∃ j : Nat, j ≤ m ∧ i = .int .i64 j ∧ Hid (ApRel W p L M oa j wr)) (fun i _ => m - (intOf i).toNat)
  case atStart => exact ⟨0, by omega, rfl, P15⟩
  case round =>
    clear P15
    obtain ⟨j, hj, rfl, HJ⟩ := hrel
    obtain ⟨L1, a1, cap1, hap, hok, hst⟩ := HJ.out.st
    by_cases hlt : j < m
    · obtain ⟨⟨xk, xv⟩, hx⟩ : ∃ x, M[j]? = some x := ⟨_, List.getElem?_eq_getElem (by rw [← HM.out.2]; exact hlt)⟩
      have HXJ : Hid (M.take (j + 1) = M.take j ++ [⟨xk, xv⟩] ∧ M = (M.take j ++ [⟨xk, xv⟩]) ++ M.drop (j + 1)) := by
        have e1 : M.take (j + 1) = M.take j ++ [⟨xk, xv⟩] := by rw [List.take_add_one, hx]; rfl
        refine ⟨e1, ?_⟩
        rw [← e1, List.take_append_drop]
      have HAP := Lib.hid (And.intro hap (And.intro hok hst))
      obtain ⟨g, o, rfl, lg, hcc⟩ := HJ.out.row j _ hx
      have d0 := hcc 0 _ rfl
      have d1 := hcc 1 _ rfl
      simp only [Nat.add_zero] at d0 d1
      have hj0 : (0 : Int) ≤ (j : Int) := by omega
      have hj1 : (j : Int) < (m : Int) := by omega
      obtain ⟨W1, hW1⟩ : ∃ W1 : World, W1 = wr.alloc (.cells #[.string xk, .string xv] 48) := ⟨_, rfl⟩
      obtain ⟨b1, hb1⟩ : ∃ b1, b1 = wr.heap.size := ⟨_, rfl⟩
      have hbb1 : Below wr.heap.size wr W1 := by rw [hW1]; exact bl_alloc _ _
      have hbx1 : W1.heap[b1]? = some (.cells #[.string xk, .string xv] 48 (0, 0)) := by rw [hW1, hb1]; exact heap_alloc_new wr _
      have HW1 : Hid (wr.alloc (.cells #[.string xk, .string xv] 48) = W1 ∧ wr.heap.size = b1) := ⟨hW1.symm, hb1.symm⟩
      have HB1 := Lib.hid hbb1
      have HP := Lib.hid (put_13 p a1 cap1 L1 xk xv W1 (hst.below hbb1) (by have := hok.few; omega) (ok_pos hok))
      have e0 : W1.cell? ⟨b1, 0, none⟩ = some (.string xk) := by rw [cell_of_row _ _ _ _ _ _ hbx1]; rfl
      have e1 : W1.cell? ⟨b1, 1, none⟩ = some (.string xv) := by rw [cell_of_row _ _ _ _ _ _ hbx1]; rfl
      clear hx hcc lg hW1 hb1 hbb1 hbx1 hap hok hst
      go_wp2_with fail
      go_upto_region 4 with fail
      rw [HW1.out.1, HW1.out.2]
      clear d0 d1
      go_wp2_with fail
      refine HP.out.mono ?_
      rintro e w2 ⟨hw2, hh⟩
      have HW2 : Hid (Wrote [p] W w2 ∧ LiesAt w2 (some ⟨g, o, none⟩) 2 wrL M) := ⟨(HJ.out.wrote.trans (below_wrote p HB1.out)).trans hw2, wrote_lies (HAP.out.2.2.below HB1.out) hw2 (HJ.out.row.below HB1.out)⟩
      clear hw2 e0 e1 HP
      have HBAD : ∀ (n : Int) (len : Nat), (badArg L1 xk xv || full L1 xk) = true → (∃ a cap, StoreAt w2 p a cap L1) → Hid (Wrote [p] w w2 ∧ applyL L M = none ∧ ∃ L' a cap, OfOK L' ∧ StoreAt w2 p a cap L') := fun n len hb hs => by
        obtain ⟨a9, c9, hs9⟩ := hs
        refine ⟨HB.out.trans HW2.out.1, ?_, L1, a9, c9, HAP.out.2.1, hs9⟩
        rw [HXJ.out.2]
        apply apply_none_more
        rw [apply_snoc, HAP.out.1]
        simp only [Option.bind_some]
        rw [if_pos hb]
      rcases hh with ⟨hbad, rfl, hs9⟩ | ⟨hbad, hful, rfl, hs9⟩ | ⟨hbad, hful, rfl, a9, c9, hc9, hs9⟩
      · have HFI := HBAD 0 0 (by rw [hbad]; rfl) hs9
        unfold errV
        generalize Value.agg _ = z
        have HWR := Lib.hid (twrap_if 163 z w2)
        clear HBAD hbad hs9
        go_wp2_with fail
        refine HWR.out.mono ?_
        rintro e w3 ⟨T', v', rfl, rfl⟩
        go_wp2_with fail
        go_ret
        exact ⟨HFI.out.1, .inr ⟨HFI.out.2.1, ⟨_, _, rfl⟩, HFI.out.2.2⟩⟩
      · have HFI := HBAD 0 0 (by rw [hful, Bool.or_true]) hs9
        unfold errV
        generalize Value.agg _ = z
        have HWR := Lib.hid (twrap_if 163 z w2)
        clear HBAD hbad hful hs9
        go_wp2_with fail
        refine HWR.out.mono ?_
        rintro e w3 ⟨T', v', rfl, rfl⟩
        go_wp2_with fail
        go_ret
        exact ⟨HFI.out.1, .inr ⟨HFI.out.2.1, ⟨_, _, rfl⟩, HFI.out.2.2⟩⟩
      · have hok2 := ok_put HAP.out.2.1 hbad hful
        have HN : Hid (ApRel W p L M (some ⟨g, o, none⟩) (j + 1) w2) := by
          refine ⟨HW2.out.1, HW2.out.2, _, a9, c9, ?_, hok2, hc9, hs9, hok2.up⟩
          rw [HXJ.out.1, apply_snoc, HAP.out.1]
          simp only [Option.bind_some]
          rw [if_neg (by rw [hbad, hful]; simp)]
        clear HBAD hbad hful hc9 hs9 hok2
        go_wp2_with fail
        exact ⟨⟨j + 1, by omega, by simp, HN⟩, by simp [intOf]; omega⟩
    · obtain rfl : j = m := by omega
      have HFI : Hid (ApL w p L M (.returned .nilIface) wr) := by
        rw [List.take_of_length_le (by rw [HM.out.2]; exact Nat.le_refl _)] at hap
        exact ⟨HB.out.trans HJ.out.wrote, .inl ⟨L1, a1, cap1, hap, rfl, hok, hst⟩⟩
      clear hap hok hst hlt
      go_wp2_with fail
      go_ret
      exact HFI.out
end Go.Proofs.YtaifmfnmgnmgbaaGreatDoor.Txn
