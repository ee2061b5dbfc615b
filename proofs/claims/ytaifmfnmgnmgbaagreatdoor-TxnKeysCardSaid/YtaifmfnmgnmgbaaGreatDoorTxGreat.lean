/- Txn: is a transaction too much? -/
import Derived.Test.YtaifmfnmgnmgbaaGreatDoorTxCheck
import Derived.BigQuiet
import Derived.Deep.QuietTactic
namespace Go.Proofs.YtaifmfnmgnmgbaaGreatDoor.Txn
open Go.RowKit Go.My

/-- what Great tells -/
def GrL (w : World) (t : Tx) (e : Ending) (w' : World) : Prop := ∃ g : Bool, e = .returned (.bool g) ∧ (g = false → t.R.length + t.W.length < 3000) ∧ Below w.heap.size w w'
structure TxWide (w : World) (t : Tx) (ra wa : Option Addr) : Prop where
  r : LiesAt w ra 2 rdL t.R
  w : LiesAt w wa 2 wrL t.W
  rl : t.R.length ≤ 140737488355328
  wl : t.W.length ≤ 140737488355328
theorem TxWide.below {w w' : World} {t : Tx} {ra wa : Option Addr} (h : TxWide w t ra wa) (hb : Below w.heap.size w w') : TxWide w' t ra wa := ⟨h.r.below hb, h.w.below hb, h.rl, h.wl⟩
theorem TxWide.at {w : World} {t : Tx} {ra wa : Option Addr} (h : TxWide w t ra wa) (hl : t.R.length + t.W.length < 3000) : TxAt w t ra wa := ⟨h.r, h.w, by omega, by omega⟩
set_option maxRecDepth 100000 in
set_option maxHeartbeats 6400000 in
theorem great_any (t : Tx) (ra : Option Addr) (rc : Nat) (wa : Option Addr) (wc : Nat) (w : World) (h : TxWide w t ra wa) :
    Calls Tryz.prog 9 #[txV t ra rc wa wc] w (GrL w t) := by
  obtain ⟨W, hW⟩ : ∃ W : World, W = w.alloc (.cells #[.int .i64 t.cl, .int .i64 t.num, .slice ra t.R.length rc, .slice wa t.W.length wc] 25) := ⟨_, rfl⟩
  obtain ⟨q, hq⟩ : ∃ q, q = w.heap.size := ⟨_, rfl⟩
  have hb : Below w.heap.size w W := by rw [hW]; exact bl_alloc _ _
  have hbx : W.heap[q]? = some (txC t ra rc wa wc) := by rw [hW, hq]; exact heap_alloc_new w _
  have HW : Hid (w.alloc (.cells #[.int .i64 t.cl, .int .i64 t.num, .slice ra t.R.length rc, .slice wa t.W.length wc] 25) = W ∧ w.heap.size = q) := ⟨hW.symm, hq.symm⟩
  have HB := Lib.hid hb
  have hbl := h.below hb
  have HR := Lib.hid hbl.r
  have HWW := Lib.hid hbl.w
  have hr9 := h.rl
  have hw9 := h.wl
  obtain ⟨z0, z1, z2, z3⟩ := txC_cell hbx
  unfold txV
  obtain ⟨rn, hrn⟩ : ∃ rn, rn = t.R.length := ⟨_, rfl⟩
  obtain ⟨wn, hwn⟩ : ∃ wn, wn = t.W.length := ⟨_, rfl⟩
  have HF : Hid (rn = t.R.length ∧ wn = t.W.length) := ⟨hrn, hwn⟩
  have HZ : Hid (∀ X, Below W.heap.size W X → X.cell? ⟨q, 2, none⟩ = some (.slice ra rn rc) ∧ X.cell? ⟨q, 3, none⟩ = some (.slice wa wn wc)) := fun X hX => by
    have hx := (hX.block _ (lt_of_heap hbx)).trans hbx
    obtain ⟨_, _, a, b⟩ := txC_cell hx
    rw [hrn, hwn]
    exact ⟨a, b⟩
  rw [← hrn] at z2 hr9
  rw [← hwn] at z3 hw9
  rw [← hrn, ← hwn] at HW ⊢
  obtain ⟨base, hbase⟩ : ∃ base : Int, base = (rn : Int) + (wn : Int) := ⟨_, rfl⟩
  have i0 : IntKind.i64.wrap ((rn : Int) + (wn : Int)) = base := by rw [hbase]; exact IntWalk.i64_in _ (by omega)
  have hb0 : 0 ≤ base := by omega
  have hb9 : base ≤ 281474976710656 := by omega
  have HBASE : Hid (base = (rn : Int) + (wn : Int)) := hbase
  have P0 : Hid (Below W.heap.size W W) := Below.refl _ _
  clear h hW hq hb hbx hbl hrn hwn hbase
  go_enter Tryz.func9, Tryz.ntmps9
  go_upto_region 1 with fail
  rw [HW.out.1, HW.out.2]
  go_wp2_with fail
  go_loopw [3, 4] (fun n i wr => ∃ (k : Nat) (c : Int), k ≤ wn ∧ i = .int .i64 k ∧ n = .int .i64 c ∧ base ≤ c ∧ c ≤ 281474976720656 ∧ Hid (Below W.heap.size W wr)) (fun _ i _ => wn - (intOf i).toNat)
  case atStart => exact ⟨0, base, by omega, rfl, rfl, by omega, by omega, P0⟩
  case round =>
    clear P0 z0 z1 z2 z3
    obtain ⟨k, c, hk, rfl, rfl, hc0, hc9, HC⟩ := hrel
    obtain ⟨z2, z3⟩ := HZ.out _ HC.out
    by_cases hlt : k < wn
    · by_cases hc2 : c < 3000
      · obtain ⟨⟨xk, xv⟩, hx⟩ : ∃ x, t.W[k]? = some x := ⟨_, List.getElem?_eq_getElem (by rw [← HF.out.2]; exact hlt)⟩
        obtain ⟨g, o, rfl, lg, hcc⟩ := (HWW.out.below HC.out) k _ hx
        have d0 := hcc 0 _ rfl
        have d1 := hcc 1 _ rfl
        simp only [Nat.add_zero] at d0 d1
        have hj0 : (0 : Int) ≤ (k : Int) := by omega
        have hj1 : (k : Int) < (wn : Int) := by omega
        have w2 : IntKind.i64.wrap (c + min (xv.size : Int) 3000) = c + min (xv.size : Int) 3000 := IntWalk.i64_in _ (by omega)
        obtain ⟨c', hc'⟩ : ∃ c' : Int, c' = c + min (xv.size : Int) 3000 + min (xk.size : Int) 3000 := ⟨_, rfl⟩
        have w3 : IntKind.i64.wrap (c + min (xv.size : Int) 3000 + min (xk.size : Int) 3000) = c' := by rw [← hc']; exact IntWalk.i64_in _ (by omega)
        have HQ : Hid (∀ q, Below W.heap.size W (wr.drewN q)) := fun q => ⟨HC.out.os, HC.out.tape, HC.out.output, HC.out.size, HC.out.block⟩
        have HN : Hid (base ≤ c' ∧ c' ≤ 281474976720656) := ⟨by omega, by omega⟩
        clear hx hcc lg hc'
        go_wp2_with fail
        go_quiet (fail)
        go_wp2_with fail
        exact ⟨⟨k + 1, c', by omega, by simp, rfl, HN.out.1, HN.out.2, HQ.out _⟩, by simp [intOf]; omega⟩
      · have hj1 : (k : Int) < (wn : Int) := by omega
        have PT : Hid (Below W.heap.size W wr) := HC.out
        go_wp2_with fail
        go_loopw [3, 5] (fun n i wr => ∃ (k : Nat) (c : Int), k ≤ rn ∧ i = .int .i64 k ∧ n = .int .i64 c ∧ base ≤ c ∧ c ≤ 281474976740656 ∧ Hid (Below W.heap.size W wr)) (fun _ i _ => rn - (intOf i).toNat)
        case atStart => exact ⟨0, c, by omega, rfl, rfl, by omega, by omega, PT⟩
        case round =>
          clear PT z2 z3 hlt HC
          obtain ⟨k2, c2, hk2, rfl, rfl, hd0, hd9, HD⟩ := hrel
          obtain ⟨z2, z3⟩ := HZ.out _ HD.out
          by_cases hl2 : k2 < rn
          · by_cases hc3 : c2 < 3000
            · obtain ⟨⟨xk, xv⟩, hx⟩ : ∃ x, t.R[k2]? = some x := ⟨_, List.getElem?_eq_getElem (by rw [← HF.out.1]; exact hl2)⟩
              obtain ⟨g, o, rfl, lg, hcc⟩ := (HR.out.below HD.out) k2 _ hx
              have d0 := hcc 0 _ rfl
              simp only [Nat.add_zero] at d0
              have hj2 : (0 : Int) ≤ (k2 : Int) := by omega
              have hj3 : (k2 : Int) < (rn : Int) := by omega
              obtain ⟨c', hc'⟩ : ∃ c' : Int, c' = c2 + min (xk.size : Int) 3000 := ⟨_, rfl⟩
              have w3 : IntKind.i64.wrap (c2 + min (xk.size : Int) 3000) = c' := by rw [← hc']; exact IntWalk.i64_in _ (by omega)
              have HN : Hid (base ≤ c' ∧ c' ≤ 281474976740656) := ⟨by omega, by omega⟩
              clear hx hcc lg hc'
              go_wp2_with fail
              exact ⟨⟨k2 + 1, c', by omega, by simp, rfl, HN.out.1, HN.out.2, HD⟩, by simp [intOf]; omega⟩
            · have hj3 : (k2 : Int) < (rn : Int) := by omega
              have hd : decide ((3000 : Int) ≤ c2) = true := decide_eq_true (by omega)
              go_wp2_with fail
              go_ret
              exact ⟨true, (by first | rfl | (rw [← hd]; rfl)), (fun h => by cases h), bl_trans HB.out HD.out⟩
          · obtain rfl : k2 = rn := by omega
            have HG : Hid (c2 < 3000 → t.R.length + t.W.length < 3000) := by
              intro h
              have h2 := HBASE.out
              have h3 := HF.out.1
              have h4 := HF.out.2
              omega
            by_cases hc3 : c2 < 3000
            · go_wp2_with fail
              go_ret
              exact ⟨_, rfl, (fun _ => HG.out hc3), bl_trans HB.out HD.out⟩
            · go_wp2_with fail
              go_ret
              exact ⟨true, (by first | rfl | (rw [← decide_eq_true (show (3000 : Int) ≤ c2 by omega)]; rfl)), (fun h => by cases h), bl_trans HB.out HD.out⟩
    · obtain rfl : k = wn := by omega
      by_cases hc2 : c < 3000
      · have PT : Hid (Below W.heap.size W wr) := HC.out
        go_wp2_with fail
        go_loopw [3, 5] (fun n i wr => ∃ (k : Nat) (c : Int), k ≤ rn ∧ i = .int .i64 k ∧ n = .int .i64 c ∧ base ≤ c ∧ c ≤ 281474976740656 ∧ Hid (Below W.heap.size W wr)) (fun _ i _ => rn - (intOf i).toNat)
        case atStart => exact ⟨0, c, by omega, rfl, rfl, by omega, by omega, PT⟩
        case round =>
          clear PT z2 z3 hlt HC
          obtain ⟨k2, c2, hk2, rfl, rfl, hd0, hd9, HD⟩ := hrel
          obtain ⟨z2, z3⟩ := HZ.out _ HD.out
          by_cases hl2 : k2 < rn
          · by_cases hc3 : c2 < 3000
            · obtain ⟨⟨xk, xv⟩, hx⟩ : ∃ x, t.R[k2]? = some x := ⟨_, List.getElem?_eq_getElem (by rw [← HF.out.1]; exact hl2)⟩
              obtain ⟨g, o, rfl, lg, hcc⟩ := (HR.out.below HD.out) k2 _ hx
              have d0 := hcc 0 _ rfl
              simp only [Nat.add_zero] at d0
              have hj2 : (0 : Int) ≤ (k2 : Int) := by omega
              have hj3 : (k2 : Int) < (rn : Int) := by omega
              obtain ⟨c', hc'⟩ : ∃ c' : Int, c' = c2 + min (xk.size : Int) 3000 := ⟨_, rfl⟩
              have w3 : IntKind.i64.wrap (c2 + min (xk.size : Int) 3000) = c' := by rw [← hc']; exact IntWalk.i64_in _ (by omega)
              have HN : Hid (base ≤ c' ∧ c' ≤ 281474976740656) := ⟨by omega, by omega⟩
              clear hx hcc lg hc'
              go_wp2_with fail
              exact ⟨⟨k2 + 1, c', by omega, by simp, rfl, HN.out.1, HN.out.2, HD⟩, by simp [intOf]; omega⟩
            · have hj3 : (k2 : Int) < (rn : Int) := by omega
              have hd : decide ((3000 : Int) ≤ c2) = true := decide_eq_true (by omega)
              go_wp2_with fail
              go_ret
              exact ⟨true, (by first | rfl | (rw [← hd]; rfl)), (fun h => by cases h), bl_trans HB.out HD.out⟩
          · obtain rfl : k2 = rn := by omega
            have HG : Hid (c2 < 3000 → t.R.length + t.W.length < 3000) := by
              intro h
              have h2 := HBASE.out
              have h3 := HF.out.1
              have h4 := HF.out.2
              omega
            by_cases hc3 : c2 < 3000
            · go_wp2_with fail
              go_ret
              exact ⟨_, rfl, (fun _ => HG.out hc3), bl_trans HB.out HD.out⟩
            · go_wp2_with fail
              go_ret
              exact ⟨true, (by first | rfl | (rw [← decide_eq_true (show (3000 : Int) ≤ c2 by omega)]; rfl)), (fun h => by cases h), bl_trans HB.out HD.out⟩
      · have PT : Hid (Below W.heap.size W wr) := HC.out
        go_wp2_with fail
        go_loopw [3, 5] (fun n i wr => ∃ (k : Nat) (c : Int), k ≤ rn ∧ i = .int .i64 k ∧ n = .int .i64 c ∧ base ≤ c ∧ c ≤ 281474976740656 ∧ Hid (Below W.heap.size W wr)) (fun _ i _ => rn - (intOf i).toNat)
        case atStart => exact ⟨0, c, by omega, rfl, rfl, by omega, by omega, PT⟩
        case round =>
          clear PT z2 z3 hlt HC
          obtain ⟨k2, c2, hk2, rfl, rfl, hd0, hd9, HD⟩ := hrel
          obtain ⟨z2, z3⟩ := HZ.out _ HD.out
          by_cases hl2 : k2 < rn
          · by_cases hc3 : c2 < 3000
            · obtain ⟨⟨xk, xv⟩, hx⟩ : ∃ x, t.R[k2]? = some x := ⟨_, List.getElem?_eq_getElem (by rw [← HF.out.1]; exact hl2)⟩
              obtain ⟨g, o, rfl, lg, hcc⟩ := (HR.out.below HD.out) k2 _ hx
              have d0 := hcc 0 _ rfl
              simp only [Nat.add_zero] at d0
              have hj2 : (0 : Int) ≤ (k2 : Int) := by omega
              have hj3 : (k2 : Int) < (rn : Int) := by omega
              obtain ⟨c', hc'⟩ : ∃ c' : Int, c' = c2 + min (xk.size : Int) 3000 := ⟨_, rfl⟩
              have w3 : IntKind.i64.wrap (c2 + min (xk.size : Int) 3000) = c' := by rw [← hc']; exact IntWalk.i64_in _ (by omega)
              have HN : Hid (base ≤ c' ∧ c' ≤ 281474976740656) := ⟨by omega, by omega⟩
              clear hx hcc lg hc'
              go_wp2_with fail
              exact ⟨⟨k2 + 1, c', by omega, by simp, rfl, HN.out.1, HN.out.2, HD⟩, by simp [intOf]; omega⟩
            · have hj3 : (k2 : Int) < (rn : Int) := by omega
              have hd : decide ((3000 : Int) ≤ c2) = true := decide_eq_true (by omega)
              go_wp2_with fail
              go_ret
              exact ⟨true, (by first | rfl | (rw [← hd]; rfl)), (fun h => by cases h), bl_trans HB.out HD.out⟩
          · obtain rfl : k2 = rn := by omega
            have HG : Hid (c2 < 3000 → t.R.length + t.W.length < 3000) := by
              intro h
              have h2 := HBASE.out
              have h3 := HF.out.1
              have h4 := HF.out.2
              omega
            by_cases hc3 : c2 < 3000
            · go_wp2_with fail
              go_ret
              exact ⟨_, rfl, (fun _ => HG.out hc3), bl_trans HB.out HD.out⟩
            · go_wp2_with fail
              go_ret
              exact ⟨true, (by first | rfl | (rw [← decide_eq_true (show (3000 : Int) ≤ c2 by omega)]; rfl)), (fun h => by cases h), bl_trans HB.out HD.out⟩
end Go.Proofs.YtaifmfnmgnmgbaaGreatDoor.Txn
