/- Txn: whether it may be one. -/
import Derived.Test.YtaifmfnmgnmgbaaGreatDoorTxRight
import Derived.Test.YtaifmfnmgnmgbaaGreatDoorTxRight2
import Derived.Deep.DeepCutAuto
import Derived.Deep.CutBlock
namespace Go.Proofs.YtaifmfnmgnmgbaaGreatDoor.Txn
open Go.RowKit Go.My

def txV (t : Tx) (ra : Option Addr) (rc : Nat) (wa : Option Addr) (wc : Nat) : Value := .agg #[.int .i64 t.cl, .int .i64 t.num, .slice ra t.R.length rc, .slice wa t.W.length wc]
def txC (t : Tx) (ra : Option Addr) (rc : Nat) (wa : Option Addr) (wc : Nat) : Obj := .cells #[.int .i64 t.cl, .int .i64 t.num, .slice ra t.R.length rc, .slice wa t.W.length wc] 25 (0, 0)
/-- a transaction in memory -/
structure TxAt (w : World) (t : Tx) (ra wa : Option Addr) : Prop where
  r : LiesAt w ra 2 rdL t.R
  w : LiesAt w wa 2 wrL t.W
  rl : t.R.length ≤ 100000
  wl : t.W.length ≤ 100000
theorem TxAt.below {w w' : World} {t : Tx} {ra wa : Option Addr} (h : TxAt w t ra wa) (hb : Below w.heap.size w w') : TxAt w' t ra wa := ⟨h.r.below hb, h.w.below hb, h.rl, h.wl⟩
theorem txC_cell {W : World} {q : Nat} {t : Tx} {ra wa : Option Addr} {rc wc : Nat} (h : W.heap[q]? = some (txC t ra rc wa wc)) : W.cell? ⟨q, 0, none⟩ = some (.int .i64 t.cl) ∧ W.cell? ⟨q, 1, none⟩ = some (.int .i64 t.num) ∧ W.cell? ⟨q, 2, none⟩ = some (.slice ra t.R.length rc) ∧ W.cell? ⟨q, 3, none⟩ = some (.slice wa t.W.length wc) :=
  ⟨by rw [cell_of_row _ _ _ _ _ _ h]; rfl, by rw [cell_of_row _ _ _ _ _ _ h]; rfl, by rw [cell_of_row _ _ _ _ _ _ h]; rfl, by rw [cell_of_row _ _ _ _ _ _ h]; rfl⟩
set_option maxRecDepth 100000 in
set_option maxHeartbeats 3200000 in
theorem right_any (t : Tx) (ra : Option Addr) (rc : Nat) (wa : Option Addr) (wc : Nat) (w : World) (h : TxAt w t ra wa) :
    Calls Tryz.prog 31 #[txV t ra rc wa wc] w (BoolL w (rightT t)) := by
  obtain ⟨W, hW⟩ : ∃ W : World, W = w.alloc (.cells #[.int .i64 t.cl, .int .i64 t.num, .slice ra t.R.length rc, .slice wa t.W.length wc] 25) := ⟨_, rfl⟩
  obtain ⟨q, hq⟩ : ∃ q, q = w.heap.size := ⟨_, rfl⟩
  have hb : Below w.heap.size w W := by rw [hW]; exact bl_alloc _ _
  have hbx : W.heap[q]? = some (txC t ra rc wa wc) := by rw [hW, hq]; exact heap_alloc_new w _
  have HW : Hid (w.alloc (.cells #[.int .i64 t.cl, .int .i64 t.num, .slice ra t.R.length rc, .slice wa t.W.length wc] 25) = W ∧ w.heap.size = q) := ⟨hW.symm, hq.symm⟩
  have HBX := Lib.hid hbx
  have HB := Lib.hid hb
  have HR := Lib.hid (rises_rd ra rc t.R W (h.r.below hb) h.rl)
  have HV := Lib.hid (fun X (hX : Below W.heap.size W X) => rises_wr wa wc t.W X ((h.w.below hb).below hX) h.wl)
  obtain ⟨z0, z1, z2, z3⟩ := txC_cell hbx
  have hrl := h.rl
  have hwl := h.wl
  obtain ⟨vr, hvr⟩ : ∃ b, b = risesR t.R := ⟨_, rfl⟩
  obtain ⟨vw, hvw⟩ : ∃ b, b = risesW t.W := ⟨_, rfl⟩
  have HT : Hid (rightT t = (decide (0 ≤ t.cl) && decide (t.cl < 16) && decide (1 ≤ t.num) && decide (t.num ≤ 1099511627776) && decide (0 < t.R.length + t.W.length) && vr && vw)) := by show _ = _; unfold rightT; rw [hvr, hvw]
  rw [← hvr] at HR
  rw [← hvw] at HV
  unfold txV
  obtain ⟨cl, hcl⟩ : ∃ cl, cl = t.cl := ⟨_, rfl⟩
  obtain ⟨num, hnum⟩ : ∃ num, num = t.num := ⟨_, rfl⟩
  obtain ⟨rn, hrn⟩ : ∃ rn, rn = t.R.length := ⟨_, rfl⟩
  obtain ⟨wn, hwn⟩ : ∃ wn, wn = t.W.length := ⟨_, rfl⟩
  rw [← hcl, ← hnum, ← hrn, ← hwn] at HT HW
  rw [← hcl] at z0
  rw [← hnum] at z1
  rw [← hrn] at z2 hrl HR
  rw [← hwn] at z3 hwl HV
  rw [← hcl, ← hnum, ← hrn, ← hwn]
  have m1 : IntKind.i64.wrap ((rn : Int) + (wn : Int)) = (rn : Int) + (wn : Int) := IntWalk.i64_in _ (by omega)
  have HRES : Hid (rightT t = rightT t) := rfl
  obtain ⟨res, hres⟩ : ∃ b, b = rightT t := ⟨_, rfl⟩
  rw [← hres] at HT ⊢
  clear h hW hq hb hbx hvr hvw hcl hnum hrn hwn hres HRES
  go_enter Tryz.func31, Tryz.ntmps31
  go_upto_region 1 with fail
  rw [HW.out.1, HW.out.2]
  by_cases c0 : 0 ≤ cl
  case neg =>
    obtain rfl : res = false := by rw [HT.out]; simp [c0]
    go_wp2_with fail
    go_ret
    exact ⟨rfl, HB.out⟩
  by_cases c1 : cl < 16
  case neg =>
    obtain rfl : res = false := by rw [HT.out]; simp [c1]
    go_wp2_with fail
    go_ret
    exact ⟨rfl, HB.out⟩
  by_cases c2 : 1 ≤ num
  case neg =>
    obtain rfl : res = false := by rw [HT.out]; simp [c2]
    go_wp2_with fail
    go_ret
    exact ⟨rfl, HB.out⟩
  by_cases c3 : num ≤ 1099511627776
  case neg =>
    obtain rfl : res = false := by rw [HT.out]; simp [c3]
    go_wp2_with fail
    go_ret
    exact ⟨rfl, HB.out⟩
  by_cases c4 : 0 < rn + wn
  case neg =>
    have c5 : ¬ (0 : Int) < (rn : Int) + (wn : Int) := by omega
    obtain rfl : res = false := by rw [HT.out]; simp [c4]
    go_wp2_with fail
    go_ret
    exact ⟨rfl, HB.out⟩
  have c5 : (0 : Int) < (rn : Int) + (wn : Int) := by omega
  have HC : Hid ((decide (0 ≤ cl) && decide (cl < 16) && decide (1 ≤ num) && decide (num ≤ 1099511627776) && decide (0 < rn + wn)) = true) := by show _ = _; simp [c0, c1, c2, c3, c4]
  have HRV : Hid (res = (vr && vw)) := by
    show _ = _
    rw [HT.out, HC.out, Bool.true_and]
  have HQB : Hid (∀ X, Below W.heap.size W X → X.cell? ⟨q, 3, none⟩ = some (.slice wa wn wc)) := fun X hX => (hX.cell (p := ⟨q, 3, none⟩) (lt_of_heap HBX.out)).trans z3
  go_wp2_with fail
  refine HR.out.mono ?_
  rintro e w1 ⟨rfl, hb1⟩
  have HB1 := Lib.hid hb1
  have z4 := HQB.out w1 hb1
  clear hb1 z0 z1 z2 z3
  cases vr with
  | false =>
    obtain rfl : res = false := by rw [HRV.out]; rfl
    go_wp2_with fail
    go_ret
    exact ⟨rfl, bl_trans HB.out HB1.out⟩
  | true =>
    go_wp2_with fail
    refine (HV.out w1 HB1.out).mono ?_
    rintro e w2 ⟨rfl, hb2⟩
    have HB2 := Lib.hid hb2
    clear hb2
    obtain rfl : res = vw := by rw [HRV.out]; rfl
    go_wp2_with fail
    go_ret
    exact ⟨rfl, bl_trans (bl_trans HB.out HB1.out) HB2.out⟩
def errTx : Value := .iface 163 (.agg #[.string ⟨#[116, 120, 110]⟩, .int .i64 0, .iface 70 (.int .i64 101)])
def errN (n : Int) : Value := .iface 163 (.agg #[.string ⟨#[116, 120, 110]⟩, .int .i64 0, .iface 70 (.int .i64 n)])
def errOfT (b : Bool) : Value := if b = true then .nilIface else errTx
set_option maxRecDepth 100000 in
theorem twrap_e (n : Int) (w : World) : Calls Tryz.prog 30 #[.iface 70 (.int .i64 n)] w fun r w' => r = .returned (errN n) ∧ w' = w := by
  have HW := Lib.hid (wrap_e (.int .i64 n) ⟨#[116, 120, 110]⟩ 0 w)
  go_enter Tryz.func30, Tryz.ntmps30
  go_wp2_with (go_at_call 68; refine HW.out.mono ?_; rintro e w' ⟨rfl, rfl⟩)
  go_ret
  exact ⟨rfl, rfl⟩
set_option maxRecDepth 100000 in
set_option maxHeartbeats 3200000 in
theorem check_any (t : Tx) (ra : Option Addr) (rc : Nat) (wa : Option Addr) (wc : Nat) (w : World) (h : TxAt w t ra wa) :
    Calls Tryz.prog 11 #[txV t ra rc wa wc] w fun e w' => e = .returned (errOfT (rightT t)) ∧ Below w.heap.size w w' := by
  obtain ⟨W, hW⟩ : ∃ W : World, W = w.alloc (.cells #[.int .i64 t.cl, .int .i64 t.num, .slice ra t.R.length rc, .slice wa t.W.length wc] 25) := ⟨_, rfl⟩
  obtain ⟨q, hq⟩ : ∃ q, q = w.heap.size := ⟨_, rfl⟩
  have hb : Below w.heap.size w W := by rw [hW]; exact bl_alloc _ _
  have hbx : W.heap[q]? = some (txC t ra rc wa wc) := by rw [hW, hq]; exact heap_alloc_new w _
  have HW : Hid (w.alloc (.cells #[.int .i64 t.cl, .int .i64 t.num, .slice ra t.R.length rc, .slice wa t.W.length wc] 25) = W ∧ w.heap.size = q) := ⟨hW.symm, hq.symm⟩
  have HB := Lib.hid hb
  have HR := right_any t ra rc wa wc W (h.below hb)
  have HO := Lib.hid (fun X => of_e 101 X rfl)
  have HX := Lib.hid (fun X => twrap_e 101 X)
  obtain ⟨z0, z1, z2, z3⟩ := txC_cell hbx
  unfold txV at HR ⊢
  have HRR := Lib.hid HR
  obtain ⟨res, hres⟩ : ∃ b, b = rightT t := ⟨_, rfl⟩
  rw [← hres] at HRR ⊢
  generalize t.cl = cl at *
  generalize t.num = num at *
  generalize t.R.length = rn at *
  generalize t.W.length = wn at *
  clear h hW hq hb hbx hres HR
  go_enter Tryz.func11, Tryz.ntmps11
  go_upto_region 1 with fail
  rw [HW.out.1, HW.out.2]
  go_wp2_with fail
  refine HRR.out.mono ?_
  rintro e w1 ⟨rfl, hb1⟩
  have HB1 := Lib.hid hb1
  clear hb1
  cases res with
  | true =>
    go_wp2_with fail
    go_ret
    exact ⟨rfl, bl_trans HB.out HB1.out⟩
  | false =>
    go_wp2_with (first | (go_at_call 32; refine (HO.out _).mono ?_; rintro e w' ⟨rfl, rfl⟩) | (go_at_call 30; refine (HX.out _).mono ?_; rintro e w' ⟨rfl, rfl⟩))
    go_ret
    exact ⟨rfl, bl_trans HB.out HB1.out⟩
end Go.Proofs.YtaifmfnmgnmgbaaGreatDoor.Txn
