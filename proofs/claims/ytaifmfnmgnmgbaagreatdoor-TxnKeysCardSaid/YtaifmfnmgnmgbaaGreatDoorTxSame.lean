/- Txn: alike transactions are the same. -/
import Derived.Test.YtaifmfnmgnmgbaaGreatDoorTxGreat
namespace Go.Proofs.YtaifmfnmgnmgbaaGreatDoor.Txn
open Go.RowKit Go.My

set_option maxRecDepth 100000 in
set_option maxHeartbeats 6400000 in
theorem same_any (t : Tx) (ra : Option Addr) (rc : Nat) (wa : Option Addr) (wc : Nat) (rb : Option Addr) (rd : Nat) (wb : Option Addr) (wd : Nat) (w : World) (h : TxAt w t ra wa) (h' : TxAt w t rb wb) :
    Calls Tryz.prog 13 #[txV t ra rc wa wc, txV t rb rd wb wd] w (BoolL w true) := by
  obtain ⟨W, hW⟩ : ∃ W : World, W = (w.alloc (.cells #[.int .i64 t.cl, .int .i64 t.num, .slice ra t.R.length rc, .slice wa t.W.length wc] 25)).alloc (.cells #[.int .i64 t.cl, .int .i64 t.num, .slice rb t.R.length rd, .slice wb t.W.length wd] 25) := ⟨_, rfl⟩
  obtain ⟨q, hq⟩ : ∃ q, q = w.heap.size := ⟨_, rfl⟩
  have hb : Below w.heap.size w W := by rw [hW]; exact ((Below.refl _ _).alloc (Nat.le_refl _) _).alloc (by simp) _
  have hbx : W.heap[q]? = some (txC t ra rc wa wc) := by
    rw [hW, hq, heap_alloc_old _ _ (by simp)]
    exact heap_alloc_new w _
  have hby : W.heap[q + 1]? = some (txC t rb rd wb wd) := by
    have := heap_alloc_new (w.alloc (.cells #[.int .i64 t.cl, .int .i64 t.num, .slice ra t.R.length rc, .slice wa t.W.length wc] 25)) (.cells #[.int .i64 t.cl, .int .i64 t.num, .slice rb t.R.length rd, .slice wb t.W.length wd] 25)
    rw [hW, hq]
    rw [show (w.alloc (.cells #[.int .i64 t.cl, .int .i64 t.num, .slice ra t.R.length rc, .slice wa t.W.length wc] 25)).heap.size = w.heap.size + 1 by simp] at this
    exact this
  have HW : Hid ((w.alloc (.cells #[.int .i64 t.cl, .int .i64 t.num, .slice ra t.R.length rc, .slice wa t.W.length wc] 25)).alloc (.cells #[.int .i64 t.cl, .int .i64 t.num, .slice rb t.R.length rd, .slice wb t.W.length wd] 25) = W ∧ w.heap.size = q) := ⟨hW.symm, hq.symm⟩
  have HB := Lib.hid hb
  have HR := Lib.hid (h.below hb).r
  have HWW := Lib.hid (h.below hb).w
  have HR' := Lib.hid (h'.below hb).r
  have HWW' := Lib.hid (h'.below hb).w
  have hr9 := h.rl
  have hw9 := h.wl
  obtain ⟨z0, z1, z2, z3⟩ := txC_cell hbx
  obtain ⟨y0, y1, y2, y3⟩ := txC_cell hby
  unfold txV
  obtain ⟨cl, hcl⟩ : ∃ cl, cl = t.cl := ⟨_, rfl⟩
  obtain ⟨num, hnum⟩ : ∃ num, num = t.num := ⟨_, rfl⟩
  obtain ⟨rn, hrn⟩ : ∃ rn, rn = t.R.length := ⟨_, rfl⟩
  obtain ⟨wn, hwn⟩ : ∃ wn, wn = t.W.length := ⟨_, rfl⟩
  have HF : Hid (rn = t.R.length ∧ wn = t.W.length) := ⟨hrn, hwn⟩
  have HZ : Hid (∀ X, Below W.heap.size W X → X.cell? ⟨q, 2, none⟩ = some (.slice ra rn rc) ∧ X.cell? ⟨q, 3, none⟩ = some (.slice wa wn wc) ∧ X.cell? ⟨q + 1, 2, none⟩ = some (.slice rb rn rd) ∧ X.cell? ⟨q + 1, 3, none⟩ = some (.slice wb wn wd)) := fun X hX => by
    obtain ⟨_, _, a, b⟩ := txC_cell ((hX.block _ (lt_of_heap hbx)).trans hbx)
    obtain ⟨_, _, c, d⟩ := txC_cell ((hX.block _ (lt_of_heap hby)).trans hby)
    rw [hrn, hwn]
    exact ⟨a, b, c, d⟩
  rw [← hcl] at z0 y0
  rw [← hnum] at z1 y1
  rw [← hrn] at z2 hr9 y2
  rw [← hwn] at z3 hw9 y3
  rw [← hcl, ← hnum, ← hrn, ← hwn] at HW ⊢
  have hr8 : (rn : Int) ≤ 100000 := by omega
  have hw8 : (wn : Int) ≤ 100000 := by omega
  have P5 : Hid (Below W.heap.size W W) := Below.refl _ _
  clear h h' hW hq hb hbx hby hcl hnum hrn hwn hr9 hw9
  go_enter Tryz.func13, Tryz.ntmps13
  go_upto_region 1 with fail
  rw [HW.out.1, HW.out.2]
  go_wp2_with fail
  go_loopw [5] (fun i wr => ∃ k : Nat, k ≤ rn ∧ i = .int .i64 k ∧ Hid (Below W.heap.size W wr)) (fun i _ => rn - (intOf i).toNat)
  case atStart => exact ⟨0, by omega, rfl, P5⟩
  case round =>
    clear P5
    obtain ⟨k5, hk5, rfl, HC⟩ := hrel
    clear z2 z3 y2 y3
    obtain ⟨z2, z3, y2, y3⟩ := HZ.out _ HC.out
    by_cases hlt : k5 < rn
    · obtain ⟨⟨xk, xv⟩, hx⟩ : ∃ x, t.R[k5]? = some x := ⟨_, List.getElem?_eq_getElem (by rw [← HF.out.1]; exact hlt)⟩
      obtain ⟨g, o, rfl, lg, hcc⟩ := (HR.out.below HC.out) k5 _ hx
      obtain ⟨g', o', rfl, lg', hcc'⟩ := (HR'.out.below HC.out) k5 _ hx
      have d0 := hcc 0 _ rfl
      have d1 := hcc 1 _ rfl
      have f0 := hcc' 0 _ rfl
      have f1 := hcc' 1 _ rfl
      simp only [Nat.add_zero] at d0 d1 f0 f1
      have hj0 : (0 : Int) ≤ (k5 : Int) := by omega
      have hj1 : (k5 : Int) < (rn : Int) := by omega
      have HQ : Hid (∀ q, Below W.heap.size W (wr.drewN q)) := fun q => ⟨HC.out.os, HC.out.tape, HC.out.output, HC.out.size, HC.out.block⟩
      clear hx hcc hcc' lg lg'
      go_wp2_with fail
      go_quiet (fail)
      go_wp2_with fail
      exact ⟨⟨k5 + 1, by omega, by simp, HQ.out _⟩, by simp [intOf]; omega⟩
    · obtain rfl : k5 = rn := by omega
      clear hlt
      have P6 : Hid (Below W.heap.size W wr) := HC.out
      clear HC hk5
      go_wp2_with fail
      go_loopw [6] (fun i wr => ∃ k : Nat, k ≤ wn ∧ i = .int .i64 k ∧ Hid (Below W.heap.size W wr)) (fun i _ => wn - (intOf i).toNat)
      case atStart => exact ⟨0, by omega, rfl, P6⟩
      case round =>
        clear P6
        obtain ⟨k6, hk6, rfl, HC⟩ := hrel
        clear z2 z3 y2 y3
        obtain ⟨z2, z3, y2, y3⟩ := HZ.out _ HC.out
        by_cases hlt : k6 < wn
        · obtain ⟨⟨xk, xv⟩, hx⟩ : ∃ x, t.W[k6]? = some x := ⟨_, List.getElem?_eq_getElem (by rw [← HF.out.2]; exact hlt)⟩
          obtain ⟨g, o, rfl, lg, hcc⟩ := (HWW.out.below HC.out) k6 _ hx
          obtain ⟨g', o', rfl, lg', hcc'⟩ := (HWW'.out.below HC.out) k6 _ hx
          have d0 := hcc 0 _ rfl
          have d1 := hcc 1 _ rfl
          have f0 := hcc' 0 _ rfl
          have f1 := hcc' 1 _ rfl
          simp only [Nat.add_zero] at d0 d1 f0 f1
          have hj0 : (0 : Int) ≤ (k6 : Int) := by omega
          have hj1 : (k6 : Int) < (wn : Int) := by omega
          have HQ : Hid (∀ q, Below W.heap.size W (wr.drewN q)) := fun q => ⟨HC.out.os, HC.out.tape, HC.out.output, HC.out.size, HC.out.block⟩
          clear hx hcc hcc' lg lg'
          go_wp2_with fail
          go_quiet (fail)
          go_wp2_with fail
          exact ⟨⟨k6 + 1, by omega, by simp, HQ.out _⟩, by simp [intOf]; omega⟩
        · obtain rfl : k6 = wn := by omega
          clear hlt
          go_wp2_with fail
          go_ret
          exact ⟨rfl, bl_trans HB.out HC.out⟩
end Go.Proofs.YtaifmfnmgnmgbaaGreatDoor.Txn
