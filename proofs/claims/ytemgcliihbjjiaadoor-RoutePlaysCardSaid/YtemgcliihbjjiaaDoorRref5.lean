/- The document's route: made, or refused. -/
import Derived.Test.YtemgcliihbjjiaaDoorRref4
import Derived.Test.YtemgcliihbjjiaaDoorRof
namespace Go.Proofs.YtemgcliihbjjiaaDoor
open Go.RowKit Go.My

def BoolInD (w : World) (b : Bool) (v : Value) (W : World) : Prop := v = .bool b ∧ Below w.heap.size w W
theorem boolInD_drewN (w : World) (b : Bool) (q : Nat) : BoolInD w b (.bool b) (w.drewN q) := ⟨rfl, ⟨rfl, rfl, rfl, Nat.le_refl _, fun _ _ => rfl⟩⟩
def DocOf (w : World) (l : List Pc) (e : Ending) (w' : World) : Prop :=
  Below w.heap.size w w' ∧ ((ofErr l = none ∧ ∃ r a cap, e = .returned (.tuple #[.pointer (some ⟨r, 0, none⟩), .int .i64 0, .int .i64 0]) ∧ w.heap.size ≤ r ∧ DtAt w' r a cap l) ∨ (∃ q, ofErr l = some q ∧ e = .returned (.tuple #[.pointer none, .int .i64 q.1, .int .i64 q.2])))
set_option maxRecDepth 100000 in
set_option maxHeartbeats 6400000 in
theorem docof_16 (a : Option Addr) (cap : Nat) (l : List Pc) (w : World) (h : SrcAny w a cap l) (hl : (l.length : Int) ≤ 70368744177664) : Calls Tryd.prog 16 #[.slice a l.length cap] w (DocOf w l) := by
  have H := Lib.hid h
  obtain ⟨n, hn⟩ : ∃ n, n = l.length := ⟨_, rfl⟩
  have HN := Lib.hid hn
  rw [← hn] at hl ⊢
  by_cases h0 : n = 0
  · have HE : Hid (ofErr l = some (1, 0)) := by
      show _ = _
      unfold ofErr
      rw [if_pos (by omega)]
    subst h0
    clear h hn
    go_enter Tryd.func16, Tryd.ntmps16
    go_wp2_with fail
    go_ret3
    exact ⟨Below.refl _ _, .inr ⟨(1, 0), HE.out, rfl⟩⟩
  have hn0 : ¬ (n : Int) = 0 := by omega
  by_cases h32 : 32 < n
  · have HE : Hid (ofErr l = some (71, (n : Int))) := by
      show _ = _
      unfold ofErr
      rw [if_neg (by omega), if_pos (by omega), ← hn]
    have h1 : (32 : Int) < (n : Int) := by omega
    clear h hn
    go_enter Tryd.func16, Tryd.ntmps16
    go_wp2_with fail
    go_ret3
    exact ⟨Below.refl _ _, .inr ⟨(71, (n : Int)), HE.out, rfl⟩⟩
  · have h1 : ¬ (32 : Int) < (n : Int) := by omega
    have hn9 : (n : Int) ≤ 32 := by omega
    have HER : Hid (∀ j, j < n → okAt l j = false → (∀ i, i < j → okAt l i = true) → ofErr l = some (1, (j : Int))) := fun j hj hb hi => by
      unfold ofErr
      rw [if_neg (by omega), if_neg (by omega), firstBad_some (by omega) hb hi]
      rfl
    have HOK : Hid ((∀ i, i < n → okAt l i = true) → Ok l) := fun hi => ok_of_err (by omega) (by omega) (fun i h => hi i (by omega))
    have P0 : Hid (Below w.heap.size w w ∧ ∀ i, i < 0 → okAt l i = true) := ⟨Below.refl _ _, fun i h => by omega⟩
    clear hn h h0 h32
    go_enter Tryd.func16, Tryd.ntmps16
    go_wp2_with fail
    go_loopw [5] (fun i wr => ∃ j : Nat, j ≤ n ∧ i = .int .i64 j ∧ Hid (Below w.heap.size w wr ∧ ∀ i, i < j → okAt l i = true)) (fun i _ => n - (intOf i).toNat)
    case atStart => exact ⟨0, by omega, rfl, P0⟩
    case round =>
      clear P0
      obtain ⟨j, hj, rfl, HB⟩ := hrel
      by_cases hlt : j < n
      · obtain ⟨x, hx⟩ : ∃ x, l[j]? = some x := ⟨_, List.getElem?_eq_getElem (by rw [← HN.out]; exact hlt)⟩
        obtain ⟨g, o, rfl, lg, hc⟩ := H.out.lies.below HB.out.1 j x hx
        have d0 : wr.cell? ⟨g, o + j * 3, none⟩ = some (.string x.fr) := hc 0 _ rfl
        have d1 : wr.cell? ⟨g, o + j * 3 + 1, none⟩ = some (.int .i64 x.sh) := hc 1 _ rfl
        have d2 : wr.cell? ⟨g, o + j * 3 + 2, none⟩ = some (.int .i64 x.ep) := hc 2 _ rfl
        have hj0 : (0 : Int) ≤ (j : Int) := by omega
        have hj1 : (j : Int) < (n : Int) := by omega
        obtain ⟨W1, hW1⟩ : ∃ W1, W1 = wr.alloc (.cells #[.string x.fr, .int .i64 x.sh, .int .i64 x.ep] 35) := ⟨_, rfl⟩
        obtain ⟨xb, hxb⟩ : ∃ z, z = wr.heap.size := ⟨_, rfl⟩
        have hb1 : Below wr.heap.size wr W1 := by rw [hW1]; exact (Below.refl _ wr).alloc (Nat.le_refl _) _
        have HX1 : Hid (W1.heap[xb]? = some (.cells #[.string x.fr, .int .i64 x.sh, .int .i64 x.ep] 35 (0, 0))) := by show _ = _; rw [hW1, hxb]; exact heap_alloc_new wr _
        have HBW : Hid (Below w.heap.size w W1) := HB.out.1.trans (hb1.mono HB.out.1.size)
        have HOKA : Hid (okAt l j = (fitB x && begB l j)) := by show _ = _; unfold okAt; rw [getD_of hx]
        have HX := Lib.hid hx
        clear hc hb1 hx
        go_upto_region 9 with fail
        rw [← hW1, ← hxb]
        clear hW1 hxb d0 d1 d2 lg
        have x0 : W1.cell? ⟨xb, 0, none⟩ = some (.string x.fr) := by rw [cell_of_row _ _ _ _ _ _ HX1.out]; rfl
        have lx := lt_of_heap HX1.out
        -- what begins: the two bools
        obtain ⟨fb, hfb⟩ : ∃ fb, fb = (decide (j = 0) && !decide (x.fr.size = 0)) := ⟨_, rfl⟩
        obtain ⟨rb, hrb⟩ : ∃ rb, rb = (decide (0 < j) && !begB l j) := ⟨_, rfl⟩
        have HFB := Lib.hid hfb
        have HRB := Lib.hid hrb
        have HBEG : Hid (begB l j = !(fb || rb)) := by
          show _ = _
          rw [hfb, hrb]
          cases j with
          | zero => rw [begB_zero, getD_of HX.out]; simp
          | succ i => simp
        clear hfb hrb
        go_cut [7] from 27 to 33 (fun v wx => v = .bool fb ∧ W1 = wx)
        case first =>
          by_cases hz : j = 0
          · have hjz : ((j : Int) == 0) = true := by simp [hz]
            by_cases hs : x.fr.size = 0
            · have e5 : x.fr.toList = [] := by rw [size_empty hs, Lib.toList_data]; rfl
              have HV : Hid (fb = false) := by show _ = _; rw [HFB.out]; simp [hs]
              clear hz hs
              go_wp2_with fail
              go_meet
              exact ⟨by rw [HV.out], rfl⟩
            · have e4 := empty_ne hs
              have HV : Hid (fb = true) := by show _ = _; rw [HFB.out]; simp [hs, hz]
              clear hz hs
              go_wp2_with fail
              go_meet
              exact ⟨by rw [HV.out], rfl⟩
          · have hjz : ((j : Int) == 0) = false := by simp [hz]
            have HV : Hid (fb = false) := by show _ = _; rw [HFB.out]; simp [hz]
            clear hz
            go_wp2_with fail
            go_meet
            exact ⟨by rw [HV.out], rfl⟩
        case rest =>
          obtain ⟨rfl, rfl⟩ := hcut
          go_upto_region 10 with fail
          go_cut [8] from 34 to 46 (fun v wx => BoolInD W1 rb v wx)
          case first =>
            by_cases hz : 0 < j
            · obtain ⟨i, hi⟩ : ∃ i, j = i + 1 := ⟨j - 1, by omega⟩
              obtain ⟨y, hy⟩ : ∃ y, l[i]? = some y := ⟨_, List.getElem?_eq_getElem (by rw [← HN.out]; omega)⟩
              obtain ⟨g', o', e1, lg, hc⟩ := H.out.lies.below HBW.out i y hy
              obtain ⟨rfl, rfl⟩ : g = g' ∧ o = o' := by simpa using e1
              have y0 : W1.cell? ⟨g, o + i * 3, none⟩ = some (.string y.fr) := hc 0 _ rfl
              have hwi : IntKind.i64.wrap ((j : Int) - 1) = (i : Int) := by rw [IntWalk.i64_in _ (by omega)]; omega
              have hi0 : (0 : Int) ≤ (i : Int) := by omega
              have hi1 : (i : Int) < (n : Int) := by omega
              have hjp : (0 : Int) < (j : Int) := by omega
              have hjd : decide (0 < j) = true := decide_eq_true hz
              have hle : (Op.bytesLess x.fr.toList y.fr.toList || x.fr.toList == y.fr.toList) = rb := by
                rw [leK, HRB.out, hi, begB_succ, getD_of hy, getD_of (by rw [← hi]; exact HX.out)]
                simp
              clear hi hy e1 hc hz
              go_wp2_with fail
              go_quiet (fail)
              go_wp2_with fail
              go_meet
              exact boolInD_drewN _ _ _
            · have hjd : decide (0 < j) = false := decide_eq_false hz
              have hjp : ¬ (0 : Int) < (j : Int) := by omega
              have HV : Hid (rb = false) := by show _ = _; rw [HRB.out]; simp [hz]
              clear hz
              go_wp2_with fail
              go_quiet (fail)
              go_wp2_with fail
              go_meet
              show BoolInD W1 rb _ _
              rw [HV.out]
              exact boolInD_drewN _ _ _
          case rest =>
            obtain ⟨rfl, hb⟩ := hcut
            obtain ⟨W2, rfl⟩ : ∃ x : World, x = wc := ⟨_, rfl⟩
            have hx2 := (hb.block _ (lt_of_heap HX1.out)).trans HX1.out
            have HBW2 := Lib.hid (HBW.out.trans (hb.mono HBW.out.size))
            clear x0 lx
            have x0 : W2.cell? ⟨xb, 0, none⟩ = some (.string x.fr) := by rw [cell_of_row _ _ _ _ _ _ hx2]; rfl
            have x1 : W2.cell? ⟨xb, 1, none⟩ = some (.int .i64 x.sh) := by rw [cell_of_row _ _ _ _ _ _ hx2]; rfl
            have x2 : W2.cell? ⟨xb, 2, none⟩ = some (.int .i64 x.ep) := by rw [cell_of_row _ _ _ _ _ _ hx2]; rfl
            have lx := lt_of_heap hx2
            obtain ⟨ob, hob⟩ : ∃ ob, ob = !okAt l j := ⟨_, rfl⟩
            have HOB1 := Lib.hid hob
            have HOB0 : Hid (ob = !(fitB x && !(fb || rb))) := by show _ = _; rw [hob, HOKA.out, HBEG.out]
            clear hb hx2 hob
            go_upto_region 11 with fail
            go_cut [76] from 47 to 75 (fun v wx => v = .bool ob ∧ W2 = wx)
            case first =>
              cases fb with
              | true =>
                have HV : Hid (ob = true) := by show _ = _; rw [HOB0.out]; simp
                go_wp2_with fail
                go_meet
                exact ⟨by rw [HV.out], rfl⟩
              | false =>
                cases rb with
                | true =>
                  have HV : Hid (ob = true) := by show _ = _; rw [HOB0.out]; simp
                  go_wp2_with fail
                  go_meet
                  exact ⟨by rw [HV.out], rfl⟩
                | false =>
                  have HOB : Hid (ob = !fitB x) := by show _ = _; rw [HOB0.out]; simp
                  clear HOB0
                  by_cases q0 : x.fr.size ≤ 16
                  · have e0 : ¬ (16 : Int) < x.fr.size := by omega
                    by_cases q1 : 0 ≤ x.sh
                    · have e1 : ¬ x.sh < 0 := by omega
                      by_cases q2 : x.sh < 4
                      · have e2 : ¬ 4 ≤ x.sh := by omega
                        by_cases q3 : 1 ≤ x.ep
                        · have e3 : ¬ x.ep < 1 := by omega
                          by_cases q4 : x.ep ≤ 1099511627776
                          · have e4 : ¬ 1099511627776 < x.ep := by omega
                            have HV : Hid (ob = false) := by show _ = _; rw [HOB.out]; unfold fitB; simp [q0, q1, q2, q3, q4]
                            clear q0 q1 q2 q3 q4
                            go_wp2_with fail
                            go_meet
                            exact ⟨by rw [HV.out], rfl⟩
                          · have e4 : 1099511627776 < x.ep := by omega
                            have HV : Hid (ob = true) := by show _ = _; rw [HOB.out]; unfold fitB; simp [q4]
                            clear q0 q1 q2 q3 q4
                            go_wp2_with fail
                            go_meet
                            exact ⟨by rw [HV.out], rfl⟩
                        · have e3 : x.ep < 1 := by omega
                          have HV : Hid (ob = true) := by show _ = _; rw [HOB.out]; unfold fitB; simp [q3]
                          clear q0 q1 q2 q3
                          go_wp2_with fail
                          go_meet
                          exact ⟨by rw [HV.out], rfl⟩
                      · have e2 : 4 ≤ x.sh := by omega
                        have HV : Hid (ob = true) := by show _ = _; rw [HOB.out]; unfold fitB; simp [q2]
                        clear q0 q1 q2
                        go_wp2_with fail
                        go_meet
                        exact ⟨by rw [HV.out], rfl⟩
                    · have e1 : x.sh < 0 := by omega
                      have HV : Hid (ob = true) := by show _ = _; rw [HOB.out]; unfold fitB; simp [q1]
                      clear q0 q1
                      go_wp2_with fail
                      go_meet
                      exact ⟨by rw [HV.out], rfl⟩
                  · have e0 : (16 : Int) < x.fr.size := by omega
                    have HV : Hid (ob = true) := by show _ = _; rw [HOB.out]; unfold fitB; simp [q0]
                    clear q0
                    go_wp2_with fail
                    go_meet
                    exact ⟨by rw [HV.out], rfl⟩
            case rest =>
              obtain ⟨rfl, rfl⟩ := hcut
              cases ob with
              | true =>
                have HE := Lib.hid (HER.out j hlt (by have := HOB1.out; simpa using this.symm) HB.out.2)
                go_wp2_with fail
                go_ret3
                exact ⟨HBW2.out, .inr ⟨(1, (j : Int)), HE.out, rfl⟩⟩
              | false =>
                have HNX : Hid (Below w.heap.size w W2 ∧ ∀ i, i < j + 1 → okAt l i = true) := ⟨HBW2.out, fun i hi => by
                  by_cases e : i = j
                  · rw [e]; have := HOB1.out; simpa using this.symm
                  · exact HB.out.2 i (by omega)⟩
                clear x0 x1 x2 lx
                go_wp2_with fail
                exact ⟨⟨j + 1, by omega, by simp, HNX⟩, by simp [intOf]; omega⟩
      · obtain rfl : j = n := by omega
        have HOKL := Lib.hid (HOK.out HB.out.2)
        have HE := Lib.hid (ofErr_ok HOKL.out)
        have HR : Hid ((wr.alloc (.cells #[] 35)).ownsRow wr.heap.size 35 3 (.slice (some ⟨wr.heap.size, 0, none⟩) 0 0) ([] : List Pc).length (([] : List Pc).flatMap pcL)) := World.ownsRow_lit wr _ 0 (Nat.le_refl _) (Nat.zero_le _) (by rfl)
        have HAL : Hid (Below wr.heap.size wr (wr.alloc (.cells #[] 35))) := (Below.refl _ wr).alloc (Nat.le_refl _) _
        have HSR := Lib.hid ((H.out.below HB.out.1).below HAL.out)
        clear HER HOK
        go_wp2_with (at_builtin; refine append_src rfl _ _ rfl wr.heap.size _ [] l rfl HR.out a cap (by rw [← HN.out]; rfl) HSR.out (by simp) (by rw [← HN.out]; omega) HAL.out.size ?_)
        intro v' w3 hown hgrow
        have hb3 : Below wr.heap.size wr w3 := HAL.out.trans ((Wrote.of_grown hgrow).below HAL.out.size fun g hg' => by
          simp only [Option.mem_toList] at hg'
          exact (row_block HR.out hg').1)
        obtain ⟨a3, c3, rfl, -⟩ := row_form hown
        have HS3 := Lib.hid (row_src hown rfl)
        have HB3 := Lib.hid (HB.out.1.trans (hb3.mono HB.out.1.size))
        clear hown hgrow hb3
        go_wp2_with fail
        go_ret3
        refine ⟨HB3.out.alloc HB3.out.size _, .inl ⟨HE.out, w3.heap.size, a3, c3, rfl, HB3.out.size, ⟨?_, ?_, HOKL.out⟩⟩⟩
        · exact heap_alloc_new w3 _
        · exact HS3.out.below ((Below.refl _ w3).alloc (Nat.le_refl _) _)
end Go.Proofs.YtemgcliihbjjiaaDoor
