/- The model: Great. -/
import Derived.Test.YtacdnpacpndekaaRunM
import Derived.Deep.RegionWith
import Derived.Deep.DeepCutAuto
namespace Go.Proofs.Ytacdnpacpndekaa
open Go.RowKit Go.My Go.My.Model

def kg1 : Int → List Wri → Int
  | z, [] => z
  | z, x :: r => if z < 3000 then kg1 (z + min (x.2.size : Int) 3000 + min (x.1.size : Int) 3000) r else z
def kg2 : Int → List (ByteArray × Int) → Int
  | z, [] => z
  | z, x :: r => if z < 3000 then kg2 (z + min (x.1.size : Int) 3000) r else z
theorem kg1_end {z : Int} (h : ¬ z < 3000) : ∀ l, kg1 z l = z
  | [] => rfl
  | x :: r => by unfold kg1; rw [if_neg h]
theorem kg2_end {z : Int} (h : ¬ z < 3000) : ∀ l, kg2 z l = z
  | [] => rfl
  | x :: r => by unfold kg2; rw [if_neg h]
theorem kg1_step {z : Int} {l : List Wri} {j : Nat} {x : Wri} (hx : l[j]? = some x) (h : z < 3000) : kg1 z (l.drop j) = kg1 (z + min (x.2.size : Int) 3000 + min (x.1.size : Int) 3000) (l.drop (j + 1)) := by
  have hj := (List.getElem?_eq_some_iff.1 hx).1
  rw [List.drop_eq_getElem_cons hj]
  have e := (List.getElem?_eq_some_iff.1 hx).2
  rw [e]
  show (if z < 3000 then _ else _) = _
  rw [if_pos h]
theorem kg2_step {z : Int} {l : List (ByteArray × Int)} {j : Nat} {x : ByteArray × Int} (hx : l[j]? = some x) (h : z < 3000) : kg2 z (l.drop j) = kg2 (z + min (x.1.size : Int) 3000) (l.drop (j + 1)) := by
  have hj := (List.getElem?_eq_some_iff.1 hx).1
  rw [List.drop_eq_getElem_cons hj]
  have e := (List.getElem?_eq_some_iff.1 hx).2
  rw [e]
  show (if z < 3000 then _ else _) = _
  rw [if_pos h]
def kgB (rs : List (ByteArray × Int)) (ws : List Wri) : Bool := decide (3000 ≤ kg2 (kg1 ((rs.length : Int) + (ws.length : Int)) ws) rs)
def Some17 (w : World) (g : Bool) (e : Ending) (w' : World) : Prop := e = .returned (.bool g) ∧ Below w.heap.size w w'
def WritesIn (w : World) (a : Option Addr) (ws : List Wri) : Prop := ∀ (j : Nat) x, ws[j]? = some x → ∃ g o, a = some ⟨g, o, none⟩ ∧ g < w.heap.size ∧ w.cell? ⟨g, o + j * 2, none⟩ = some (.string x.1) ∧ w.cell? ⟨g, o + j * 2 + 1, none⟩ = some (.string x.2)
set_option maxRecDepth 100000 in
set_option maxHeartbeats 1600000 in
theorem kgreat_any (c n : Int) (ra wa : Option Addr) (rc wc : Nat) (rs : List (ByteArray × Int)) (ws : List Wri) (w : World) (hr : ReadsIn w ra rs) (hw : WritesIn w wa ws) (hrm : rs.length ≤ 8796093022208) (hwm : ws.length ≤ 8796093022208) :
    Calls Try.prog 17 #[.agg #[.int .i64 c, .int .i64 n, .slice ra rs.length rc, .slice wa ws.length wc]] w (Some17 w (kgB rs ws)) := by
  have HRD := Lib.hid hr
  have HWR := Lib.hid hw
  obtain ⟨rl, hrl⟩ : ∃ rl, rl = rs.length := ⟨_, rfl⟩
  obtain ⟨wl, hwl⟩ : ∃ wl, wl = ws.length := ⟨_, rfl⟩
  have HRL := Lib.hid hrl
  have HWL := Lib.hid hwl
  rw [← hrl] at hrm ⊢
  rw [← hwl] at hwm ⊢
  have hrm9 : (rl : Int) ≤ 8796093022208 := by omega
  have hwm9 : (wl : Int) ≤ 8796093022208 := by omega
  have HKG : Hid (kgB rs ws = decide (3000 ≤ kg2 (kg1 ((rl : Int) + (wl : Int)) ws) rs)) := by show _ = _; unfold kgB; rw [← hrl, ← hwl]
  rw [HKG.out]
  obtain ⟨k1, hk1⟩ : ∃ k1, k1 = kg1 ((rl : Int) + (wl : Int)) ws := ⟨_, rfl⟩
  have HK1 := Lib.hid hk1
  rw [← hk1]
  clear hk1 hrm hwm
  clear hr hw hrl hwl
  go_enter Try.func17, Try.ntmps17
  go_wp2_with fail
  have HB0 : Hid (Below w.heap.size w (w.alloc (.cells #[.int .i64 c, .int .i64 n, .slice ra rl rc, .slice wa wl wc] 39)) ) := (Below.refl _ w).alloc (Nat.le_refl _) _
  have HC0 : Hid ((w.alloc (.cells #[.int .i64 c, .int .i64 n, .slice ra rl rc, .slice wa wl wc] 39)).heap[w.heap.size]? = some (.cells #[.int .i64 c, .int .i64 n, .slice ra rl rc, .slice wa wl wc] 39 (0, 0))) := heap_alloc_new w _
  go_loopw [3, 4] (fun m i wr => ∃ (j : Nat) (z : Int), j ≤ wl ∧ i = .int .i64 j ∧ m = .int .i64 z ∧ 0 ≤ z ∧ z ≤ 17592186054416 ∧ Hid (k1 = kg1 z (ws.drop j)) ∧ Hid (Below w.heap.size w wr ∧ wr.heap[w.heap.size]? = some (.cells #[.int .i64 c, .int .i64 n, .slice ra rl rc, .slice wa wl wc] 39 (0, 0)))) (fun _ i _ => wl - (intOf i).toNat)
  case atStart => exact ⟨0, _, by omega, rfl, rfl, by omega, by omega, HK1.out, HB0.out, HC0.out⟩
  case round =>
    clear HB0 HC0
    obtain ⟨j, z, hj, rfl, rfl, hz0, hz9, HZ, HB⟩ := hrel
    have c2 : wr.cell? ⟨w.heap.size, 2, none⟩ = some (.slice ra rl rc) := by rw [cell_of_row _ _ _ _ _ _ HB.out.2]; rfl
    have c3 : wr.cell? ⟨w.heap.size, 3, none⟩ = some (.slice wa wl wc) := by rw [cell_of_row _ _ _ _ _ _ HB.out.2]; rfl
    by_cases hlt : j < wl
    · by_cases hz : z < 3000
      · obtain ⟨x, hx⟩ : ∃ x, ws[j]? = some x := ⟨_, List.getElem?_eq_getElem (by rw [← HWL.out]; exact hlt)⟩
        obtain ⟨g, o, rfl, hg, d0, d1⟩ := HWR.out j x hx
        have e0 := (HB.out.1.cell (p := ⟨g, o + j * 2, none⟩) hg).trans d0
        have e1 := (HB.out.1.cell (p := ⟨g, o + j * 2 + 1, none⟩) hg).trans d1
        have hj0 : (0 : Int) ≤ (j : Int) := by omega
        have hj1 : (j : Int) < (wl : Int) := by omega
        have HZ2 : Hid (k1 = kg1 (z + min (x.2.size : Int) 3000 + min (x.1.size : Int) 3000) (ws.drop (j + 1))) := HZ.out.trans (kg1_step hx hz)
        clear d0 d1 hx
        go_wp2_with fail
        go_quiet (fail)
        have HB2 : Hid (Below w.heap.size w (wr.drewN nq) ∧ (wr.drewN nq).heap[w.heap.size]? = some (.cells #[.int .i64 c, .int .i64 n, .slice ra rl rc, .slice (some ⟨g, o, none⟩) wl wc] 39 (0, 0))) := ⟨HB.out.1.trans ⟨rfl, rfl, rfl, by simp, fun _ _ => rfl⟩, HB.out.2⟩
        go_wp2_with fail
        exact ⟨⟨j + 1, _, by omega, by simp, rfl, by omega, by omega, HZ2, HB2⟩, by simp [intOf]; omega⟩
      · have HZE : Hid (kg2 k1 rs = kg2 z (rs.drop 0)) := by show _ = _; rw [HZ.out, kg1_end hz]; rfl
        go_wp2_with fail
        go_loopw [3, 5] (fun m i wr => ∃ (q : Nat) (y : Int), q ≤ rl ∧ i = .int .i64 q ∧ m = .int .i64 y ∧ 0 ≤ y ∧ y ≤ 17592186054416 ∧ Hid (kg2 k1 rs = kg2 y (rs.drop q)) ∧ Hid (Below w.heap.size w wr ∧ wr.heap[w.heap.size]? = some (.cells #[.int .i64 c, .int .i64 n, .slice ra rl rc, .slice wa wl wc] 39 (0, 0)))) (fun _ i _ => rl - (intOf i).toNat)
        case atStart => exact ⟨0, _, by omega, rfl, rfl, hz0, hz9, HZE.out, HB.out⟩
        case round =>
          clear HB c2 c3 hz0 hz9
          obtain ⟨q, y, hq, rfl, rfl, hy0, hy9, HY, HB⟩ := hrel
          have c2 : wr.cell? ⟨w.heap.size, 2, none⟩ = some (.slice ra rl rc) := by rw [cell_of_row _ _ _ _ _ _ HB.out.2]; rfl
          by_cases hq1 : q < rl
          · by_cases hy : y < 3000
            · obtain ⟨x, hx⟩ : ∃ x, rs[q]? = some x := ⟨_, List.getElem?_eq_getElem (by rw [← HRL.out]; exact hq1)⟩
              obtain ⟨g, o, rfl, hg, d0, d1⟩ := HRD.out q x hx
              have e0 := (HB.out.1.cell (p := ⟨g, o + q * 2, none⟩) hg).trans d0
              have hj0 : (0 : Int) ≤ (q : Int) := by omega
              have hj1 : (q : Int) < (rl : Int) := by omega
              have HY2 : Hid (kg2 k1 rs = kg2 (y + min (x.1.size : Int) 3000) (rs.drop (q + 1))) := HY.out.trans (kg2_step hx hy)
              clear d0 d1 hx
              go_wp2_with fail
              exact ⟨⟨q + 1, _, by omega, by simp, rfl, by omega, by omega, HY2, HB⟩, by simp [intOf]; omega⟩
            · have he : kg2 k1 rs = y := HY.out.trans (kg2_end hy _)
              have HE := Lib.hid he
              clear he
              go_wp2_with fail
              go_ret
              exact ⟨by rw [HE.out]; simp; omega, HB.out.1⟩
          · have he : kg2 k1 rs = y := by rw [HY.out, List.drop_eq_nil_of_le (by rw [← HRL.out]; omega)]; rfl
            have HE := Lib.hid he
            clear he
            go_wp2_with fail
            go_ret
            exact ⟨by rw [HE.out]; rfl, HB.out.1⟩
    · have HZE : Hid (kg2 k1 rs = kg2 z (rs.drop 0)) := by show _ = _; rw [HZ.out, List.drop_eq_nil_of_le (by rw [← HWL.out]; omega)]; rfl
      go_wp2_with fail
      go_loopw [3, 5] (fun m i wr => ∃ (q : Nat) (y : Int), q ≤ rl ∧ i = .int .i64 q ∧ m = .int .i64 y ∧ 0 ≤ y ∧ y ≤ 17592186054416 ∧ Hid (kg2 k1 rs = kg2 y (rs.drop q)) ∧ Hid (Below w.heap.size w wr ∧ wr.heap[w.heap.size]? = some (.cells #[.int .i64 c, .int .i64 n, .slice ra rl rc, .slice wa wl wc] 39 (0, 0)))) (fun _ i _ => rl - (intOf i).toNat)
      case atStart => exact ⟨0, _, by omega, rfl, rfl, hz0, hz9, HZE.out, HB.out⟩
      case round =>
        clear HB c2 c3 hz0 hz9
        obtain ⟨q, y, hq, rfl, rfl, hy0, hy9, HY, HB⟩ := hrel
        have c2 : wr.cell? ⟨w.heap.size, 2, none⟩ = some (.slice ra rl rc) := by rw [cell_of_row _ _ _ _ _ _ HB.out.2]; rfl
        by_cases hq1 : q < rl
        · by_cases hy : y < 3000
          · obtain ⟨x, hx⟩ : ∃ x, rs[q]? = some x := ⟨_, List.getElem?_eq_getElem (by rw [← HRL.out]; exact hq1)⟩
            obtain ⟨g, o, rfl, hg, d0, d1⟩ := HRD.out q x hx
            have e0 := (HB.out.1.cell (p := ⟨g, o + q * 2, none⟩) hg).trans d0
            have hj0 : (0 : Int) ≤ (q : Int) := by omega
            have hj1 : (q : Int) < (rl : Int) := by omega
            have HY2 : Hid (kg2 k1 rs = kg2 (y + min (x.1.size : Int) 3000) (rs.drop (q + 1))) := HY.out.trans (kg2_step hx hy)
            clear d0 d1 hx
            go_wp2_with fail
            exact ⟨⟨q + 1, _, by omega, by simp, rfl, by omega, by omega, HY2, HB⟩, by simp [intOf]; omega⟩
          · have he : kg2 k1 rs = y := HY.out.trans (kg2_end hy _)
            have HE := Lib.hid he
            clear he
            go_wp2_with fail
            go_ret
            exact ⟨by rw [HE.out]; simp; omega, HB.out.1⟩
        · have he : kg2 k1 rs = y := by rw [HY.out, List.drop_eq_nil_of_le (by rw [← HRL.out]; omega)]; rfl
          have HE := Lib.hid he
          clear he
          go_wp2_with fail
          go_ret
          exact ⟨by rw [HE.out]; rfl, HB.out.1⟩
end Go.Proofs.Ytacdnpacpndekaa
