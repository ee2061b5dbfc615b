/- Txn: does a transaction fit a store? -/
import Derived.Test.YtaifmfnmgnmgbaaGreatDoorTxOwn
import Derived.Test.YtaifmfnmgnmgbaaGreatDoorTxSame
import Derived.Test.YtaifmfnmgnmgbaaGreatDoorPut
namespace Go.Proofs.YtaifmfnmgnmgbaaGreatDoor.Txn
open Go.RowKit Go.My

def moreT (L : List Ent) (M : List Wr) : Nat := M.countP fun x => !hasK L x.key
def fitsT (L : List Ent) (t : Tx) (K : List ByteArray) : Bool :=
  (t.R.filter (pRRd K)).all (fun x => decide (oldV L x.key = x.ver)) && decide ((moreT L (t.W.filter (pRWr K)) : Int) ≤ 128 - (L.length : Int))
theorem fits_no {L : List Ent} {t : Tx} {K : List ByteArray} {M : List Rd} (hM : M = t.R.filter (pRRd K)) {x : Rd} {i : Nat} (hx : M[i]? = some x) (h : ¬ oldV L x.key = x.ver) : fitsT L t K = false := by
  unfold fitsT
  rw [← hM]
  have : M.all (fun x => decide (oldV L x.key = x.ver)) = false := by
    rw [List.all_eq_false]
    exact ⟨x, List.mem_of_getElem? hx, by simpa using h⟩
  rw [this, Bool.false_and]
theorem fits_yes {L : List Ent} {t : Tx} {K : List ByteArray} {M : List Rd} (hM : M = t.R.filter (pRRd K)) (h : ∀ (i : Nat) x, i < M.length → M[i]? = some x → oldV L x.key = x.ver) : fitsT L t K = decide ((moreT L (t.W.filter (pRWr K)) : Int) ≤ 128 - (L.length : Int)) := by
  unfold fitsT
  rw [← hM]
  have : M.all (fun x => decide (oldV L x.key = x.ver)) = true := by
    rw [List.all_eq_true]
    intro x hx
    obtain ⟨i, hi⟩ := List.getElem?_of_mem hx
    exact decide_eq_true (h i x (List.getElem?_eq_some_iff.1 hi).1 hi)
  rw [this, Bool.true_and]
theorem more_step {L : List Ent} {M : List Wr} {j : Nat} {x : Wr} (hx : M[j]? = some x) : moreT L (M.take (j + 1)) = moreT L (M.take j) + (if hasK L x.key = true then 0 else 1) := by
  unfold moreT
  rw [List.take_add_one, hx, List.countP_append]
  cases hh : hasK L x.key <;> simp [hh]
theorem more_le {L : List Ent} {M : List Wr} (j : Nat) : moreT L (M.take j) ≤ j := by
  unfold moreT
  refine Nat.le_trans List.countP_le_length ?_
  rw [List.length_take]
  omega
set_option maxRecDepth 100000 in
set_option maxHeartbeats 6400000 in
theorem fits_any (t : Tx) (ra : Option Addr) (rc : Nat) (wa : Option Addr) (wc : Nat) (p : Nat) (a : Option Addr) (cap : Nat) (L : List Ent) (ka : Option Addr) (kc : Nat) (K : List ByteArray) (w : World) (h : TxAt w t ra wa) (hn1 : ra = none → rc = 0) (hn2 : wa = none → wc = 0)
    (hs : StoreAt w p a cap L) (hl : L.length ≤ 1000) (hK : LiesAt w ka 1 strL K) (hk9 : K.length ≤ 100000) :
    Calls Tryz.prog 16 #[txV t ra rc wa wc, .pointer (some ⟨p, 0, none⟩), .slice ka K.length kc] w (BoolL w (fitsT L t K)) := by
  obtain ⟨W, hW⟩ : ∃ W : World, W = w.alloc (.cells #[.int .i64 t.cl, .int .i64 t.num, .slice ra t.R.length rc, .slice wa t.W.length wc] 25) := ⟨_, rfl⟩
  obtain ⟨q, hq⟩ : ∃ q, q = w.heap.size := ⟨_, rfl⟩
  have hb : Below w.heap.size w W := by rw [hW]; exact bl_alloc _ _
  have hbx : W.heap[q]? = some (txC t ra rc wa wc) := by rw [hW, hq]; exact heap_alloc_new w _
  have HW : Hid (w.alloc (.cells #[.int .i64 t.cl, .int .i64 t.num, .slice ra t.R.length rc, .slice wa t.W.length wc] 25) = W ∧ w.heap.size = q) := ⟨hW.symm, hq.symm⟩
  have HB := Lib.hid hb
  have HST := Lib.hid (hs.below hb)
  have HLL : Hid (L.length ≤ 100000) := by show _ ≤ _; omega
  have HL9 : Hid (L.length ≤ 1000) := hl
  have hZ3 : ∀ X, Below W.heap.size W X → X.cell? ⟨q, 3, none⟩ = some (.slice wa t.W.length wc) := fun X hX => (txC_cell ((hX.block _ (lt_of_heap hbx)).trans hbx)).2.2.2
  have HO1 : Hid (Calls Tryz.prog 45 #[.slice ra t.R.length rc, .func (.func 46) #[] #[], .slice ka K.length kc] W (OwRd W K t.R)) := own_rd ra rc t.R ka kc K W (h.below hb).r h.rl hn1 (hK.below hb) hk9
  have HO2 : Hid (∀ X, Below W.heap.size W X → Calls Tryz.prog 47 #[.slice wa t.W.length wc, .func (.func 48) #[] #[], .slice ka K.length kc] X (OwWr X K t.W)) := fun X hX => own_wr wa wc t.W ka kc K X ((h.below hb).below hX).w h.wl hn2 ((hK.below hb).below hX) hk9
  obtain ⟨z0, z1, z2, z3⟩ := txC_cell hbx
  unfold txV
  obtain ⟨rn, hrn⟩ : ∃ rn, rn = t.R.length := ⟨_, rfl⟩
  obtain ⟨wn, hwn⟩ : ∃ wn, wn = t.W.length := ⟨_, rfl⟩
  obtain ⟨kn, hkn⟩ : ∃ kn, kn = K.length := ⟨_, rfl⟩
  obtain ⟨M, hM⟩ : ∃ M, M = t.R.filter (pRRd K) := ⟨_, rfl⟩
  obtain ⟨Mw, hMw⟩ : ∃ Mw, Mw = t.W.filter (pRWr K) := ⟨_, rfl⟩
  obtain ⟨m, hm⟩ : ∃ m, m = M.length := ⟨_, rfl⟩
  obtain ⟨mw, hmw⟩ : ∃ mw, mw = Mw.length := ⟨_, rfl⟩
  have HM : Hid (M = t.R.filter (pRRd K) ∧ Mw = t.W.filter (pRWr K) ∧ m = M.length ∧ mw = Mw.length) := ⟨hM, hMw, hm, hmw⟩
  have hm9 : m ≤ 100000 := by rw [hm, hM]; exact Nat.le_trans (List.length_filter_le _ _) h.rl
  have hw9 : mw ≤ 100000 := by rw [hmw, hMw]; exact Nat.le_trans (List.length_filter_le _ _) h.wl
  rw [← hrn] at z2
  rw [← hwn] at z3 hZ3
  unfold OwRd at HO1
  unfold OwWr at HO2
  rw [← hrn, ← hkn, ← hM, ← hm] at HO1
  rw [← hwn, ← hkn, ← hMw, ← hmw] at HO2
  rw [← hrn, ← hwn] at HW
  rw [← hrn, ← hwn, ← hkn]
  have HZ3 := Lib.hid hZ3
  have hmi : (m : Int) ≤ 100000 := by omega
  have hmwi : (mw : Int) ≤ 100000 := by omega
  clear h hW hq hb hbx hrn hwn hkn hs hl hK hk9 hn1 hn2 hM hMw hm hmw hZ3 hm9 hw9
  go_enter Tryz.func16, Tryz.ntmps16
  go_upto_region 1 with fail
  rw [HW.out.1, HW.out.2]
  go_wp2_with fail
  refine HO1.out.mono ?_
  rintro e w1 ⟨oa, oc, rfl, hol, hob⟩
  have HOL := Lib.hid (And.intro hol hob)
  have P0 : Hid (Below W.heap.size W w1 ∧ Below w1.heap.size w1 w1 ∧ ∀ (i : Nat) x, i < 0 → M[i]? = some x → oldV L x.key = x.ver) := ⟨hob, Below.refl _ _, fun i x hi => by omega⟩
  clear hol hob z0 z1 z2 z3 HO1
  go_wp2_with fail
  go_loopw [21] (fun i wr => ∃ j : Nat, j ≤ m ∧ i = .int .i64 j ∧ Hid (Below W.heap.size W wr ∧ Below w1.heap.size w1 wr ∧ ∀ (i : Nat) x, i < j → M[i]? = some x → oldV L x.key = x.ver)) (fun i _ => m - (intOf i).toNat)
  case atStart => exact ⟨0, by omega, rfl, P0⟩
  case round =>
    clear P0
    obtain ⟨j, hj, rfl, HJ⟩ := hrel
    by_cases hlt : j < m
    · obtain ⟨⟨xk, xv⟩, hx⟩ : ∃ x, M[j]? = some x := ⟨_, List.getElem?_eq_getElem (by rw [← HM.out.2.2.1]; exact hlt)⟩
      have HXJ := Lib.hid hx
      obtain ⟨g, o, rfl, lg, hcc⟩ := (HOL.out.1.below HJ.out.2.1) j _ hx
      have d0 := hcc 0 _ rfl
      have d1 := hcc 1 _ rfl
      simp only [Nat.add_zero] at d0 d1
      have hj0 : (0 : Int) ≤ (j : Int) := by omega
      have hj1 : (j : Int) < (m : Int) := by omega
      have HJ1 : Hid (Below w1.heap.size w1 wr) := HJ.out.2.1
      obtain ⟨W1, hW1⟩ : ∃ W1 : World, W1 = wr.alloc (.cells #[.string xk, .int .i64 xv] 53) := ⟨_, rfl⟩
      obtain ⟨b1, hb1⟩ : ∃ b1, b1 = wr.heap.size := ⟨_, rfl⟩
      have hbb1 : Below wr.heap.size wr W1 := by rw [hW1]; exact bl_alloc _ _
      have hbx1 : W1.heap[b1]? = some (.cells #[.string xk, .int .i64 xv] 53 (0, 0)) := by rw [hW1, hb1]; exact heap_alloc_new wr _
      have HW1 : Hid (wr.alloc (.cells #[.string xk, .int .i64 xv] 53) = W1 ∧ wr.heap.size = b1) := ⟨hW1.symm, hb1.symm⟩
      have HBX1 : Hid (W1.heap[b1]? = some (.cells #[.string xk, .int .i64 xv] 53 (0, 0)) ∧ Below W.heap.size W W1) := ⟨hbx1, HJ.out.1.trans (hbb1.mono HJ.out.1.size)⟩
      obtain ⟨⟨yk, yv, yn⟩, hy⟩ : ∃ y, y = (getE L xk).getD ent0 := ⟨_, rfl⟩
      obtain ⟨is, his⟩ : ∃ is, is = (getE L xk).isSome := ⟨_, rfl⟩
      have HY : Hid ((⟨yk, yv, yn⟩ : Ent) = (getE L xk).getD ent0 ∧ is = (getE L xk).isSome) := ⟨hy, his⟩
      have HG := get_11 p a cap L xk W1 (HST.out.below HBX1.out.2) HLL.out
      unfold GetLeft gotE entA at HG
      rw [← hy, ← his] at HG
      have HGG := Lib.hid HG
      have e0 : W1.cell? ⟨b1, 0, none⟩ = some (.string xk) := by rw [cell_of_row _ _ _ _ _ _ hbx1]; rfl
      clear hx hcc lg hW1 hb1 hbb1 hbx1 hy his HG
      go_wp2_with fail
      go_upto_region 4 with fail
      rw [HW1.out.1, HW1.out.2]
      clear d0 d1
      go_wp2_with fail
      refine HGG.out.mono ?_
      rintro e w2 ⟨rfl, hb2⟩
      obtain ⟨W3, hW3⟩ : ∃ W3 : World, W3 = w2.alloc (.cells #[.string yk, .string yv, .int .i64 yn] 42) := ⟨_, rfl⟩
      obtain ⟨b3, hb3⟩ : ∃ b3, b3 = w2.heap.size := ⟨_, rfl⟩
      have hbb3 : Below w2.heap.size w2 W3 := by rw [hW3]; exact bl_alloc _ _
      have hbx3 : W3.heap[b3]? = some (.cells #[.string yk, .string yv, .int .i64 yn] 42 (0, 0)) := by rw [hW3, hb3]; exact heap_alloc_new w2 _
      have HW3 : Hid (w2.alloc (.cells #[.string yk, .string yv, .int .i64 yn] 42) = W3 ∧ w2.heap.size = b3) := ⟨hW3.symm, hb3.symm⟩
      have hb13 := bl_trans hb2 hbb3
      have HB3 : Hid (Below W.heap.size W W3) := HBX1.out.2.trans (hb13.mono HBX1.out.2.size)
      have hbx13 := (hb13.block _ (lt_of_heap HBX1.out.1)).trans HBX1.out.1
      have HB31 : Hid (Below w1.heap.size w1 W3) := by
        have h1 : Below wr.heap.size wr W1 := by rw [← HW1.out.1]; exact bl_alloc _ _
        exact bl_trans (bl_trans HJ1.out h1) hb13
      have f1 : W3.cell? ⟨b1, 1, none⟩ = some (.int .i64 xv) := by rw [cell_of_row _ _ _ _ _ _ hbx13]; rfl
      have f2 : W3.cell? ⟨b3, 2, none⟩ = some (.int .i64 yn) := by rw [cell_of_row _ _ _ _ _ _ hbx3]; rfl
      clear hW3 hb3 hbb3 hbx3 hb13 hbx13 hb2 e0 HGG
      go_upto_region 5 with fail
      rw [HW3.out.1, HW3.out.2]
      by_cases he : yn = xv
      · have HNX : Hid (Below W.heap.size W W3 ∧ Below w1.heap.size w1 W3 ∧ ∀ (i : Nat) x, i < j + 1 → M[i]? = some x → oldV L x.key = x.ver) := ⟨HB3.out, HB31.out, fun i x hi hx => by
          rcases Nat.lt_or_ge i j with h | h
          · exact HJ.out.2.2 i x h hx
          · obtain rfl : i = j := by omega
            rw [HXJ.out] at hx
            cases hx
            show ((getE L xk).getD ent0).ver = xv
            rw [← HY.out.1]
            exact he⟩
        subst he
        go_wp2_with fail
        exact ⟨⟨j + 1, by omega, by simp, HNX⟩, by simp [intOf]; omega⟩
      · have HNO : Hid (fitsT L t K = false) := fits_no HM.out.1 HXJ.out (by
          show ¬ ((getE L xk).getD ent0).ver = xv
          rw [← HY.out.1]
          exact he)
        have hne : ((yn : Int) == xv) = false := by simpa using he
        clear he
        go_wp2_with fail
        go_ret
        exact ⟨by rw [HNO.out]; rfl, bl_trans HB.out HB3.out⟩
    · obtain rfl : j = m := by omega
      have HY0 : Hid (fitsT L t K = decide ((moreT L Mw : Int) ≤ 128 - (L.length : Int))) := by
        have := fits_yes (L := L) HM.out.1 (fun i x hi hx => HJ.out.2.2 i x (by rw [HM.out.2.2.1]; exact hi) hx)
        rw [← HM.out.2.1] at this
        exact this
      have z3 := HZ3.out wr HJ.out.1
      have HO := Lib.hid (HO2.out wr HJ.out.1)
      clear hlt
      go_wp2_with fail
      refine HO.out.mono ?_
      rintro e w4 ⟨oa2, oc2, rfl, hol2, hob2⟩
      have HOL2 := Lib.hid hol2
      have P1 : Hid (Below W.heap.size W w4 ∧ Below w4.heap.size w4 w4 ∧ 0 = moreT L (Mw.take 0)) := ⟨HJ.out.1.trans (hob2.mono HJ.out.1.size), Below.refl _ _, rfl⟩
      clear hol2 hob2 HO z3
      go_wp2_with fail
      go_loopw [11, 43] (fun v i wr => ∃ k c : Nat, k ≤ mw ∧ c ≤ k ∧ i = .int .i64 k ∧ v = .int .i64 c ∧ Hid (Below W.heap.size W wr ∧ Below w4.heap.size w4 wr ∧ c = moreT L (Mw.take k))) (fun _ i _ => mw - (intOf i).toNat)
      case atStart => exact ⟨0, 0, by omega, by omega, rfl, rfl, P1⟩
      case round =>
        clear P1 HJ
        obtain ⟨k, c, hk, hc, rfl, rfl, HJ⟩ := hrel
        by_cases hlt : k < mw
        · obtain ⟨⟨xk, xv⟩, hx⟩ : ∃ x, Mw[k]? = some x := ⟨_, List.getElem?_eq_getElem (by rw [← HM.out.2.2.2]; exact hlt)⟩
          have HXJ := Lib.hid hx
          obtain ⟨g, o, rfl, lg, hcc⟩ := (HOL2.out.below HJ.out.2.1) k _ hx
          have d0 := hcc 0 _ rfl
          have d1 := hcc 1 _ rfl
          simp only [Nat.add_zero] at d0 d1
          have hj0 : (0 : Int) ≤ (k : Int) := by omega
          have hj1 : (k : Int) < (mw : Int) := by omega
          have HJ1 : Hid (Below w4.heap.size w4 wr ∧ c = moreT L (Mw.take k)) := HJ.out.2
          obtain ⟨W1, hW1⟩ : ∃ W1 : World, W1 = wr.alloc (.cells #[.string xk, .string xv] 48) := ⟨_, rfl⟩
          obtain ⟨b1, hb1⟩ : ∃ b1, b1 = wr.heap.size := ⟨_, rfl⟩
          have hbb1 : Below wr.heap.size wr W1 := by rw [hW1]; exact bl_alloc _ _
          have hbx1 : W1.heap[b1]? = some (.cells #[.string xk, .string xv] 48 (0, 0)) := by rw [hW1, hb1]; exact heap_alloc_new wr _
          have HW1 : Hid (wr.alloc (.cells #[.string xk, .string xv] 48) = W1 ∧ wr.heap.size = b1) := ⟨hW1.symm, hb1.symm⟩
          have HBX1 : Hid (W1.heap[b1]? = some (.cells #[.string xk, .string xv] 48 (0, 0)) ∧ Below W.heap.size W W1) := ⟨hbx1, HJ.out.1.trans (hbb1.mono HJ.out.1.size)⟩
          obtain ⟨⟨yk, yv, yn⟩, hy⟩ : ∃ y, y = (getE L xk).getD ent0 := ⟨_, rfl⟩
          obtain ⟨is, his⟩ : ∃ is, is = (getE L xk).isSome := ⟨_, rfl⟩
          have HY : Hid ((⟨yk, yv, yn⟩ : Ent) = (getE L xk).getD ent0 ∧ is = (getE L xk).isSome) := ⟨hy, his⟩
          have HG := get_11 p a cap L xk W1 (HST.out.below HBX1.out.2) HLL.out
          unfold GetLeft gotE entA at HG
          rw [← hy, ← his] at HG
          have HGG := Lib.hid HG
          have e0 : W1.cell? ⟨b1, 0, none⟩ = some (.string xk) := by rw [cell_of_row _ _ _ _ _ _ hbx1]; rfl
          clear hx hcc lg hW1 hb1 hbb1 hbx1 hy his HG
          go_wp2_with fail
          go_upto_region 12 with fail
          rw [HW1.out.1, HW1.out.2]
          clear d0 d1
          go_wp2_with fail
          refine HGG.out.mono ?_
          rintro e w2 ⟨rfl, hb2⟩
          obtain ⟨W3, hW3⟩ : ∃ W3 : World, W3 = w2.alloc (.cells #[.string yk, .string yv, .int .i64 yn] 42) := ⟨_, rfl⟩
          obtain ⟨b3, hb3⟩ : ∃ b3, b3 = w2.heap.size := ⟨_, rfl⟩
          have hbb3 : Below w2.heap.size w2 W3 := by rw [hW3]; exact bl_alloc _ _
          have hbx3 : W3.heap[b3]? = some (.cells #[.string yk, .string yv, .int .i64 yn] 42 (0, 0)) := by rw [hW3, hb3]; exact heap_alloc_new w2 _
          have HW3 : Hid (w2.alloc (.cells #[.string yk, .string yv, .int .i64 yn] 42) = W3 ∧ w2.heap.size = b3) := ⟨hW3.symm, hb3.symm⟩
          have hb13 := bl_trans hb2 hbb3
          have HB3 : Hid (Below W.heap.size W W3) := HBX1.out.2.trans (hb13.mono HBX1.out.2.size)
          have hbx13 := (hb13.block _ (lt_of_heap HBX1.out.1)).trans HBX1.out.1
          have HB31 : Hid (Below w4.heap.size w4 W3) := by
            have h1 : Below wr.heap.size wr W1 := by rw [← HW1.out.1]; exact bl_alloc _ _
            exact bl_trans (bl_trans HJ1.out.1 h1) hb13
          clear hW3 hb3 hbb3 hbx3 hb13 hbx13 hb2 e0 HGG
          have HIS : Hid (hasK L xk = is) := by
            show _ = _
            rw [← get_has]
            exact HY.out.2.symm
          go_upto_region 13 with fail
          rw [HW3.out.1, HW3.out.2]
          cases is with
          | true =>
            have HNX : Hid (Below W.heap.size W W3 ∧ Below w4.heap.size w4 W3 ∧ c = moreT L (Mw.take (k + 1))) := ⟨HB3.out, HB31.out, by
              rw [more_step HXJ.out, ← HJ1.out.2]
              simp only
              rw [HIS.out]
              simp⟩
            go_wp2_with fail
            exact ⟨⟨k + 1, c, by omega, by omega, by simp, rfl, HNX⟩, by simp [intOf]; omega⟩
          | false =>
            have HNX : Hid (Below W.heap.size W W3 ∧ Below w4.heap.size w4 W3 ∧ c + 1 = moreT L (Mw.take (k + 1))) := ⟨HB3.out, HB31.out, by
              rw [more_step HXJ.out, ← HJ1.out.2]
              simp only
              rw [HIS.out]
              simp⟩
            go_wp2_with fail
            exact ⟨⟨k + 1, c + 1, by omega, by omega, by simp, by simp, HNX⟩, by simp [intOf]; omega⟩
        · obtain rfl : k = mw := by omega
          have HR := Lib.hid (room_17 p a cap L c wr (HST.out.below HJ.out.1) HLL.out)
          have HE : Hid (fitsT L t K = decide ((c : Int) ≤ 128 - (L.length : Int))) := by
            have := HY0.out
            have h2 := HJ.out.2.2
            rw [List.take_of_length_le (by rw [HM.out.2.2.2]; exact Nat.le_refl _)] at h2
            rw [← h2] at this
            exact this
          obtain ⟨B, hB⟩ : ∃ B : Bool, B = decide ((c : Int) ≤ 128 - (L.length : Int)) := ⟨_, rfl⟩
          rw [← hB] at HR HE
          clear hB hlt
          go_wp2_with fail
          refine HR.out.mono ?_
          rintro e w5 ⟨rfl, rfl⟩
          go_wp2_with fail
          go_ret
          exact ⟨by rw [HE.out]; rfl, bl_trans HB.out HJ.out.1⟩
end Go.Proofs.YtaifmfnmgnmgbaaGreatDoor.Txn
