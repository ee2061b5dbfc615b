/- SlotsEnter: the walk. -/
import Derived.Test.YtelmgaaofighpaaEnt
import Derived.Test.YtelmgaaofighpaaCutw
namespace Go.Proofs.Ytelmgaaofighpaa
open Go.RowKit Go.My Go.My.Slots

set_option maxRecDepth 100000 in
theorem enter_long (a : Option Addr) (len : Nat) (cap : Nat) (view : Int) (w : World) (hl : 150 < len) :
    Calls Try.prog 8 #[.slice a len cap, .int .i64 view] w fun e w' => e = .returned (.bool true) ∧ Below w.heap.size w w' := by
  go_enter Try.func8, Try.ntmps8
  go_wp2_with (go_at_call 9; refine (head_any _).mono ?_; rintro e w1 ⟨rfl, hb1⟩; have B1 := Lib.hid hb1; clear hb1)
  refine (new_any _).mono ?_
  rintro e w2 ⟨I, rfl, hs, hb, hI⟩
  have B2 := Lib.hid hb
  clear hs hb hI
  go_wp2_with fail
  go_ret
  exact ⟨rfl, B1.out.trans (B2.out.mono B1.out.size)⟩

set_option maxRecDepth 100000 in
set_option maxHeartbeats 12800000 in
theorem enter_law (a : Option Addr) (ops : List Op6) (cap : Nat) (view : Int) (w : World) (ha : OpsAt w a ops) (hl : ops.length ≤ 150) :
    Calls Try.prog 8 #[.slice a ops.length cap, .int .i64 view] w fun e w' => e = .returned (.bool true) ∧ Below w.heap.size w w' := by
  obtain ⟨len, hlen⟩ : ∃ len, len = ops.length := ⟨_, rfl⟩
  rw [← hlen] at hl ⊢
  have HA := Lib.hid ha
  have HL := Lib.hid hlen
  clear ha hlen
  go_enter Try.func8, Try.ntmps8
  go_wp2_with (go_at_call 9; refine (head_any _).mono ?_; rintro e w1 ⟨rfl, hb1⟩; have B1 := Lib.hid hb1; clear hb1)
  refine (new_any _).mono ?_
  rintro e w2 ⟨I, rfl, hs, hb, hI⟩
  have H2 := Lib.hid hs
  have B2 := Lib.hid hb
  have HI := Lib.hid hI
  clear hs hb hI
  go_wp2_with fail
  go_loopw [7] (fun i wr => ∃ k : Nat, k ≤ len ∧ i = .int .i64 k ∧ LoopRel w I wr) (fun i _ => len - (intOf i).toNat)
  case atStart => exact ⟨0, by omega, rfl, st0, inv0, H2.out, B1.out.trans (B2.out.mono B1.out.size)⟩
  case round =>
    obtain ⟨k, hk, rfl, s, hi, hs, hb⟩ := hrel
    have HS := Lib.hid hs
    have HV := Lib.hid hi
    have HB := Lib.hid hb
    clear hs hi hb
    by_cases hlt : k < len
    · have hok : ops[k]? = some (ops[k]'(by rw [← HL.out]; exact hlt)) := List.getElem?_eq_getElem _
      obtain ⟨o, ho⟩ : ∃ o, o = ops[k]'(by rw [← HL.out]; exact hlt) := ⟨_, rfl⟩
      rw [← ho] at hok
      obtain ⟨hn, b, off, rfl, hbl, c0, c1, c2, c3, c4, c5⟩ := HA.out k o hok
      have ht : ∀ j, wr.cell? ⟨b, j, none⟩ = w.cell? ⟨b, j, none⟩ := fun j => HB.out.cell hbl
      rw [← ht] at c0 c1 c2 c3 c4 c5
      have HN := Lib.hid hn
      clear ht hok ho hn
      go_wp2_with fail
      refine (does_any I s o.what o.n o.kind o.who o.d o.v _ HS.out HV.out HN.out).mono ?_
      rintro e w3 ⟨rfl, hs3, ht3⟩
      have HR : Hid (LoopRel w I w3) := ⟨_, inv_does HV.out _ _ _ _ _ _, hs3, HB.out.trans (ht3.below (Nat.le_trans HB.out.size (Nat.le_refl _)) (fun j hj => Nat.le_trans B1.out.size (HI.out j hj)))⟩
      clear hs3 ht3
      go_wp2_with fail
      go_roundw
      case rel => exact ⟨k + 1, by omega, by go_num, HR.out⟩
      case measure => simp [intOf]; omega
    · have hl0 : 0 ≤ s.low := HV.out.low0
      have hl1 : s.low ≤ 1099511627776 := HV.out.low1
      have HLOW := Lib.hid (low_any I.b s.low wr HS.out.c0)
      have HVW := Lib.hid (view_any I.b s.view wr HS.out.c1)
      have HPR := Lib.hid (proofs_inv I s wr HS.out HV.out)
      obtain ⟨i0, hi0, hz0, hz1, hz2⟩ := info_parts int_info
      have HI0 := Lib.hid hi0
      have HZ := Lib.hid hz0
      have HSZ := Lib.hid hz1
      have HY := Lib.hid hz2
      clear hi0 hz0 hz1 hz2
      obtain ⟨lat, hlat⟩ : ∃ lat, lat = enterB s view := ⟨_, rfl⟩
      have HLAT := Lib.hid hlat
      have HCASE : (lat = true ∧ s.view < view ∧ view ≤ 1073741824) ∨ (lat = false ∧ s.view < view ∧ 1073741824 < view) ∨ (lat = false ∧ view ≤ s.view) := by
        rw [hlat]
        unfold enterB
        by_cases q1 : view ≤ 1073741824 <;> by_cases q2 : s.view < view <;> simp [q1, q2] <;> omega
      clear hlat
      rcases HCASE with ⟨rfl, v1, v2⟩ | ⟨rfl, v1, v2⟩ | ⟨rfl, v1⟩
      · have HEN : Hid (∀ W, SlotsAt W I s → Calls Try.prog 25 #[.pointer (some ⟨I.b, 0, none⟩), .int .i64 view] W (Left W I true (enter s view))) := fun W hW => by
          have := enter_any I s view W hW
          rwa [← HLAT.out] at this
        go_wp2_with (first | (go_at_call 17; refine HLOW.out.mono ?_; rintro e w' ⟨rfl, rfl⟩) | (go_at_call 15; refine HVW.out.mono ?_; rintro e w' ⟨rfl, rfl⟩))
        refine HPR.out.mono ?_
        rintro e w4 ⟨vp, rfl, hrow, hb4⟩
        have HS4 := Lib.hid (HS.out.below hb4)
        have HB4 := Lib.hid (HB.out.trans (hb4.mono HB.out.size))
        have HR4 := Lib.hid hrow
        have R0 : Hid (EnRel w4 s 0 (.slice none 0 0) (.slice none 0 0) w4) := ⟨Below.refl _ _, World.ownsRow_nil _ _ _ _, World.ownsRow_nil _ _ _ _, fun g hg => by cases hg⟩
        clear hrow hb4
        obtain ⟨lo, hlo⟩ : ∃ lo, lo = s.low := ⟨_, rfl⟩
        have HLO := Lib.hid hlo
        rw [← hlo] at hl0 hl1
        rw [← HLO.out]
        clear hlo
        go_wp2_with fail
        go_loopw [12, 13, 14] (fun vd va n wx => ∃ q : Nat, q ≤ 16 ∧ n = .int .i64 (lo + 1 + (q : Int)) ∧ EnRel w4 s q vd va wx) (fun _ _ n _ => 17 - (intOf n - lo).toNat)
        case atStart => exact ⟨0, by omega, by simp, R0.out⟩
        case round =>
          obtain ⟨q, hq, rfl, hr⟩ := hrel
          have HR := Lib.hid hr
          clear hr
          by_cases hq16 : q < 16
          · have hle : lo + 1 + (q : Int) ≤ lo + 16 := by omega
            have HACC := Lib.hid (accepted_any I s (lo + 1 + (q : Int)) wr (HS4.out.below HR.out.below))
            have HDEC := Lib.hid (decided_any I s (lo + 1 + (q : Int)) wr (HS4.out.below HR.out.below))
            cases hd : aget s.dec (lo + 1 + (q : Int)) with
            | none =>
              cases hc : aget s.acc (lo + 1 + (q : Int)) with
              | none =>
                rw [hd] at HDEC
                rw [hc] at HACC
                simp only [Option.getD_none, Option.isSome_none] at HDEC HACC
                have HX : Hid ((-1 : Int) = numOf s.dec (s.low + 1 + (q : Int))) := by show _ = _; unfold numOf; rw [← HLO.out, hd]; rfl
                have HY2 : Hid ((-1 : Int) = numOf s.acc (s.low + 1 + (q : Int))) := by show _ = _; unfold numOf; rw [← HLO.out, hc]; rfl
                clear hd hc
                go_wp2_with (first | (go_at_call 13; refine HACC.out.mono ?_; rintro e w' ⟨rfl, rfl⟩) | (go_at_call 14; refine HDEC.out.mono ?_; rintro e w' ⟨rfl, rfl⟩) | (at_builtin; refine wpList_append_lies _ rfl _ _ 30 rfl w4.heap.size 3 i0 (.int .i64 0) 1 8 Try.underlying30 HI0.out HZ.out HSZ.out HY.out rfl (by decide) _ _ _ rfl (HR.out.dec.alloc _) ⟨wr.heap.size, 0, none⟩ 1 1 [.int .i64 (-1)] rfl rfl ?c1 ?c2 (by decide) ?c3 ?c4 ?c5 _ rfl ?_))
                case c1 => exact cell_one_new _ _ _
                case c2 => simp [Value.oneCell']
                case c3 => unfold maxLen; omega
                case c4 => omega
                case c5 => have := HR.out.below.size; simp; omega
                intro g1 cap1 w5 hown hgrow hat _
                have HM := Lib.hid (HR.out.first HX.out hown hgrow (fun g hg => by
                  have e : g1 = g := by simpa [Value.ownBlock] using hg
                  subst e
                  simpa using hat))
                clear hown hgrow hat
                go_wp2_with (at_builtin; refine wpList_append_lies _ rfl _ _ 30 rfl w4.heap.size 3 i0 (.int .i64 0) 1 8 Try.underlying30 HI0.out HZ.out HSZ.out HY.out rfl (by decide) _ _ _ rfl (HM.out.acc.alloc _) ⟨w5.heap.size, 0, none⟩ 1 1 [.int .i64 (-1)] rfl rfl ?e1 ?e2 (by decide) ?e3 ?e4 ?e5 _ rfl ?_)
                case e1 => exact cell_one_new _ _ _
                case e2 => simp [Value.oneCell']
                case e3 => unfold maxLen; omega
                case e4 => omega
                case e5 => have := HM.out.below.size; simp; omega
                intro g2 cap2 w6 hown hgrow hat _
                have HE := Lib.hid (HM.out.second HY2.out hown hgrow (fun g hg => by
                  have e : g2 = g := by simpa [Value.ownBlock] using hg
                  subst e
                  simpa using hat))
                clear hown hgrow hat
                go_wp2_with fail
                exact ⟨⟨q + 1, by omega, by simp; omega, HE.out⟩, by simp [intOf]; omega⟩
              | some yv =>
                rw [hd] at HDEC
                rw [hc] at HACC
                simp only [Option.getD_none, Option.isSome_none, Option.getD_some, Option.isSome_some] at HDEC HACC
                have HX : Hid ((-1 : Int) = numOf s.dec (s.low + 1 + (q : Int))) := by show _ = _; unfold numOf; rw [← HLO.out, hd]; rfl
                have HY2 : Hid ((yv : Int) = numOf s.acc (s.low + 1 + (q : Int))) := by show _ = _; unfold numOf; rw [← HLO.out, hc]; rfl
                clear hd hc
                go_wp2_with (first | (go_at_call 13; refine HACC.out.mono ?_; rintro e w' ⟨rfl, rfl⟩) | (go_at_call 14; refine HDEC.out.mono ?_; rintro e w' ⟨rfl, rfl⟩) | (at_builtin; refine wpList_append_lies _ rfl _ _ 30 rfl w4.heap.size 3 i0 (.int .i64 0) 1 8 Try.underlying30 HI0.out HZ.out HSZ.out HY.out rfl (by decide) _ _ _ rfl (HR.out.dec.alloc _) ⟨wr.heap.size, 0, none⟩ 1 1 [.int .i64 (-1)] rfl rfl ?c1 ?c2 (by decide) ?c3 ?c4 ?c5 _ rfl ?_))
                case c1 => exact cell_one_new _ _ _
                case c2 => simp [Value.oneCell']
                case c3 => unfold maxLen; omega
                case c4 => omega
                case c5 => have := HR.out.below.size; simp; omega
                intro g1 cap1 w5 hown hgrow hat _
                have HM := Lib.hid (HR.out.first HX.out hown hgrow (fun g hg => by
                  have e : g1 = g := by simpa [Value.ownBlock] using hg
                  subst e
                  simpa using hat))
                clear hown hgrow hat
                go_wp2_with (at_builtin; refine wpList_append_lies _ rfl _ _ 30 rfl w4.heap.size 3 i0 (.int .i64 0) 1 8 Try.underlying30 HI0.out HZ.out HSZ.out HY.out rfl (by decide) _ _ _ rfl (HM.out.acc.alloc _) ⟨w5.heap.size, 0, none⟩ 1 1 [.int .i64 (yv)] rfl rfl ?e1 ?e2 (by decide) ?e3 ?e4 ?e5 _ rfl ?_)
                case e1 => exact cell_one_new _ _ _
                case e2 => simp [Value.oneCell']
                case e3 => unfold maxLen; omega
                case e4 => omega
                case e5 => have := HM.out.below.size; simp; omega
                intro g2 cap2 w6 hown hgrow hat _
                have HE := Lib.hid (HM.out.second HY2.out hown hgrow (fun g hg => by
                  have e : g2 = g := by simpa [Value.ownBlock] using hg
                  subst e
                  simpa using hat))
                clear hown hgrow hat
                go_wp2_with fail
                exact ⟨⟨q + 1, by omega, by simp; omega, HE.out⟩, by simp [intOf]; omega⟩
            | some xv =>
              cases hc : aget s.acc (lo + 1 + (q : Int)) with
              | none =>
                rw [hd] at HDEC
                rw [hc] at HACC
                simp only [Option.getD_none, Option.isSome_none, Option.getD_some, Option.isSome_some] at HDEC HACC
                have HX : Hid ((xv : Int) = numOf s.dec (s.low + 1 + (q : Int))) := by show _ = _; unfold numOf; rw [← HLO.out, hd]; rfl
                have HY2 : Hid ((-1 : Int) = numOf s.acc (s.low + 1 + (q : Int))) := by show _ = _; unfold numOf; rw [← HLO.out, hc]; rfl
                clear hd hc
                go_wp2_with (first | (go_at_call 13; refine HACC.out.mono ?_; rintro e w' ⟨rfl, rfl⟩) | (go_at_call 14; refine HDEC.out.mono ?_; rintro e w' ⟨rfl, rfl⟩) | (at_builtin; refine wpList_append_lies _ rfl _ _ 30 rfl w4.heap.size 3 i0 (.int .i64 0) 1 8 Try.underlying30 HI0.out HZ.out HSZ.out HY.out rfl (by decide) _ _ _ rfl (HR.out.dec.alloc _) ⟨wr.heap.size, 0, none⟩ 1 1 [.int .i64 (xv)] rfl rfl ?c1 ?c2 (by decide) ?c3 ?c4 ?c5 _ rfl ?_))
                case c1 => exact cell_one_new _ _ _
                case c2 => simp [Value.oneCell']
                case c3 => unfold maxLen; omega
                case c4 => omega
                case c5 => have := HR.out.below.size; simp; omega
                intro g1 cap1 w5 hown hgrow hat _
                have HM := Lib.hid (HR.out.first HX.out hown hgrow (fun g hg => by
                  have e : g1 = g := by simpa [Value.ownBlock] using hg
                  subst e
                  simpa using hat))
                clear hown hgrow hat
                go_wp2_with (at_builtin; refine wpList_append_lies _ rfl _ _ 30 rfl w4.heap.size 3 i0 (.int .i64 0) 1 8 Try.underlying30 HI0.out HZ.out HSZ.out HY.out rfl (by decide) _ _ _ rfl (HM.out.acc.alloc _) ⟨w5.heap.size, 0, none⟩ 1 1 [.int .i64 (-1)] rfl rfl ?e1 ?e2 (by decide) ?e3 ?e4 ?e5 _ rfl ?_)
                case e1 => exact cell_one_new _ _ _
                case e2 => simp [Value.oneCell']
                case e3 => unfold maxLen; omega
                case e4 => omega
                case e5 => have := HM.out.below.size; simp; omega
                intro g2 cap2 w6 hown hgrow hat _
                have HE := Lib.hid (HM.out.second HY2.out hown hgrow (fun g hg => by
                  have e : g2 = g := by simpa [Value.ownBlock] using hg
                  subst e
                  simpa using hat))
                clear hown hgrow hat
                go_wp2_with fail
                exact ⟨⟨q + 1, by omega, by simp; omega, HE.out⟩, by simp [intOf]; omega⟩
              | some yv =>
                rw [hd] at HDEC
                rw [hc] at HACC
                simp only [Option.getD_some, Option.isSome_some] at HDEC HACC
                have HX : Hid ((xv : Int) = numOf s.dec (s.low + 1 + (q : Int))) := by show _ = _; unfold numOf; rw [← HLO.out, hd]; rfl
                have HY2 : Hid ((yv : Int) = numOf s.acc (s.low + 1 + (q : Int))) := by show _ = _; unfold numOf; rw [← HLO.out, hc]; rfl
                clear hd hc
                go_wp2_with (first | (go_at_call 13; refine HACC.out.mono ?_; rintro e w' ⟨rfl, rfl⟩) | (go_at_call 14; refine HDEC.out.mono ?_; rintro e w' ⟨rfl, rfl⟩) | (at_builtin; refine wpList_append_lies _ rfl _ _ 30 rfl w4.heap.size 3 i0 (.int .i64 0) 1 8 Try.underlying30 HI0.out HZ.out HSZ.out HY.out rfl (by decide) _ _ _ rfl (HR.out.dec.alloc _) ⟨wr.heap.size, 0, none⟩ 1 1 [.int .i64 (xv)] rfl rfl ?c1 ?c2 (by decide) ?c3 ?c4 ?c5 _ rfl ?_))
                case c1 => exact cell_one_new _ _ _
                case c2 => simp [Value.oneCell']
                case c3 => unfold maxLen; omega
                case c4 => omega
                case c5 => have := HR.out.below.size; simp; omega
                intro g1 cap1 w5 hown hgrow hat _
                have HM := Lib.hid (HR.out.first HX.out hown hgrow (fun g hg => by
                  have e : g1 = g := by simpa [Value.ownBlock] using hg
                  subst e
                  simpa using hat))
                clear hown hgrow hat
                go_wp2_with (at_builtin; refine wpList_append_lies _ rfl _ _ 30 rfl w4.heap.size 3 i0 (.int .i64 0) 1 8 Try.underlying30 HI0.out HZ.out HSZ.out HY.out rfl (by decide) _ _ _ rfl (HM.out.acc.alloc _) ⟨w5.heap.size, 0, none⟩ 1 1 [.int .i64 (yv)] rfl rfl ?e1 ?e2 (by decide) ?e3 ?e4 ?e5 _ rfl ?_)
                case e1 => exact cell_one_new _ _ _
                case e2 => simp [Value.oneCell']
                case e3 => unfold maxLen; omega
                case e4 => omega
                case e5 => have := HM.out.below.size; simp; omega
                intro g2 cap2 w6 hown hgrow hat _
                have HE := Lib.hid (HM.out.second HY2.out hown hgrow (fun g hg => by
                  have e : g2 = g := by simpa [Value.ownBlock] using hg
                  subst e
                  simpa using hat))
                clear hown hgrow hat
                go_wp2_with fail
                exact ⟨⟨q + 1, by omega, by simp; omega, HE.out⟩, by simp [intOf]; omega⟩
          · obtain rfl : q = 16 := by omega
            have hgt : lo + 16 < lo + 1 + ((16 : Nat) : Int) := by omega
            have HR5 := Lib.hid HR.out
            go_wp2_with fail
            refine (HEN.out _ (HS4.out.below HR.out.below)).mono ?_
            rintro e w6 ⟨rfl, hs6, ht6⟩
            have HS6 := Lib.hid hs6
            have HB6 := Lib.hid (HB4.out.trans (HR.out.below.mono HB4.out.size) |>.trans (ht6.below (Nat.le_trans HB4.out.size HR.out.below.size) (fun j hj => Nat.le_trans B1.out.size (HI.out j hj))))
            have HD6 := Lib.hid (row_ids HR.out.dec HS4.out ht6)
            have HA6 := Lib.hid (row_ids HR.out.acc HS4.out ht6)
            have HP6 := Lib.hid (row_ids (row_below HR4.out HR.out.below) HS.out ht6)
            clear hs6 ht6 HR5
            obtain ⟨s', hs'⟩ : ∃ s', s' = enter s view := ⟨_, rfl⟩
            rw [← hs'] at HS6
            have HSS := Lib.hid hs'
            have HV6 : Hid (Inv s') := by show Inv s'; rw [hs']; exact inv_enter HV.out view
            obtain ⟨el, ed, ep⟩ : s'.low = lo ∧ s'.dec = s.dec ∧ s'.proofs = s.proofs := by rw [hs', HLO.out]; exact enter_low s view
            have EL := Lib.hid el
            have ED := Lib.hid ed
            have EP := Lib.hid (proofsL_of ep)
            clear hs' el ed ep
            have HLOW6 : Hid (Calls Try.prog 17 #[.pointer (some ⟨I.b, 0, none⟩)] w6 fun e w' => e = .returned (.int .i64 lo) ∧ w6 = w') := by
              have := low_any I.b s'.low w6 HS6.out.c0
              rw [EL.out] at this
              exact this
            have hll : (lo != lo) = false := by simp
            go_wp2_with (go_at_call 17; refine HLOW6.out.mono ?_; rintro e w' ⟨rfl, rfl⟩)
            refine (proofs_inv I s' w6 HS6.out HV6.out).mono ?_
            rintro e w7 ⟨v7, rfl, hrow7, hb7⟩
            have HS7 := Lib.hid (HS6.out.below hb7)
            have HB7 := Lib.hid (HB6.out.trans (hb7.mono HB6.out.size))
            have HD7 := Lib.hid (row_below HD6.out hb7)
            have HA7 := Lib.hid (row_below HA6.out hb7)
            rw [EP.out] at hrow7
            have HSA := Lib.hid (same_any w7 (proofsL s) _ _ _ _ hrow7 (row_below HP6.out hb7) (by have := inv_few HV.out; have := proofsL_len s; omega))
            clear hrow7 hb7
            go_wp2_with fail
            refine HSA.out.mono ?_
            rintro e w8 ⟨rfl, hb8⟩
            have HS8 := Lib.hid (HS7.out.below hb8)
            have HB8 := Lib.hid (HB7.out.trans (hb8.mono HB7.out.size))
            have HD8 := Lib.hid (row_below HD7.out hb8)
            have HA8 := Lib.hid (row_below HA7.out hb8)
            clear hb8
            obtain ⟨gd, cd, ed, _, hgd⟩ := HD8.out.form (by decide)
            obtain ⟨ga, ca, ea, _, hga⟩ := HA8.out.form (by decide)
            subst ed
            subst ea
            go_wp2_with fail
            have HEA : Hid (s'.acc = []) := by
              show _ = _
              rw [HSS.out]
              unfold enter
              rw [← HLAT.out]
              rfl
            have HEV : Hid (s'.votes = []) := by
              show _ = _
              rw [HSS.out]
              unfold enter
              rw [← HLAT.out]
              rfl
            go_loop [20] (fun n => ∃ q : Nat, q ≤ 16 ∧ n = .int .i64 (lo + 1 + (q : Int))) (fun n => 17 - (intOf n - lo).toNat)
            case atStart => exact ⟨0, by omega, by simp⟩
            case round =>
              obtain ⟨q, hq, rfl⟩ := hrel
              by_cases hq16 : q < 16
              · have hle : lo + 1 + (q : Int) ≤ lo + 16 := by omega
                have HDEC := Lib.hid (decided_any I s' (lo + 1 + (q : Int)) w8 HS8.out)
                have HACC := Lib.hid (accepted_any I s' (lo + 1 + (q : Int)) w8 HS8.out)
                rw [ED.out] at HDEC
                rw [HEA.out] at HACC
                have kd : w8.cell? ⟨gd, q, none⟩ = some (.int .i64 (numOf s.dec (lo + 1 + (q : Int)))) := by
                  rw [HD8.out.cellAt q (by omega), List.getElem?_map, numsK_get _ _ hq16, HLO.out]
                  rfl
                have ka : w8.cell? ⟨ga, q, none⟩ = some (.int .i64 (numOf s.acc (lo + 1 + (q : Int)))) := by
                  rw [HA8.out.cellAt q (by omega), List.getElem?_map, numsK_get _ _ hq16, HLO.out]
                  rfl
                have hidx : lo + 1 + (q : Int) - lo = (q : Int) + 1 := by omega
                have hq0 : (0 : Int) ≤ (q : Int) := by omega
                have hq1 : (q : Int) < 16 := by omega
                unfold numOf at kd ka
                simp only [aget_nil, Option.getD_none, Option.isSome_none] at HACC
                have HW1 := Lib.hid (who_empty I s' 1 (lo + 1 + (q : Int)) 0 w8 HS8.out (fun x => by rw [HEV.out]; rfl))
                have HW2 := Lib.hid (who_empty I s' 2 (lo + 1 + (q : Int)) 1 w8 HS8.out (fun x => by rw [HEV.out]; rfl))
                cases hd : aget s.dec (lo + 1 + (q : Int)) with
                | none =>
                  rw [hd] at HDEC kd
                  simp only [Option.getD_none, Option.isSome_none] at HDEC kd
                  clear hd
                  go_wp2_with (first | (go_at_call 13; refine HACC.out.mono ?_; rintro e w' ⟨rfl, rfl⟩) | (go_at_call 14; refine HDEC.out.mono ?_; rintro e w' ⟨rfl, rfl⟩))
                  refine HW1.out.mono ?_
                  rintro e w' ⟨rfl, rfl⟩
                  go_wp2_with fail
                  refine HW2.out.mono ?_
                  rintro e w' ⟨rfl, rfl⟩
                  go_wp2_with fail
                  exact ⟨⟨q + 1, by omega, by simp; omega⟩, by simp [intOf]; omega⟩
                | some xv =>
                  have hx0 : 0 ≤ xv := (HV.out.dec _ (aget_some_mem hd)).2
                  rw [hd] at HDEC kd
                  simp only [Option.getD_some, Option.isSome_some] at HDEC kd
                  have hxx : (xv != xv) = false := by simp
                  clear hd
                  go_wp2_with (first | (go_at_call 13; refine HACC.out.mono ?_; rintro e w' ⟨rfl, rfl⟩) | (go_at_call 14; refine HDEC.out.mono ?_; rintro e w' ⟨rfl, rfl⟩))
                  refine HW1.out.mono ?_
                  rintro e w' ⟨rfl, rfl⟩
                  go_wp2_with fail
                  refine HW2.out.mono ?_
                  rintro e w' ⟨rfl, rfl⟩
                  go_wp2_with fail
                  exact ⟨⟨q + 1, by omega, by simp; omega⟩, by simp [intOf]; omega⟩
              · obtain rfl : q = 16 := by omega
                have hgt : lo + 16 < lo + 1 + ((16 : Nat) : Int) := by omega
                go_wp2_with fail
                go_ret
                exact ⟨rfl, HB8.out⟩
      · have HEN : Hid (∀ W, SlotsAt W I s → Calls Try.prog 25 #[.pointer (some ⟨I.b, 0, none⟩), .int .i64 view] W (Left W I false (enter s view))) := fun W hW => by
          have := enter_any I s view W hW
          rwa [← HLAT.out] at this
        have hb0 : decide (view ≤ 1073741824) = false := by simp; omega
        go_wp2_with (first | (go_at_call 17; refine HLOW.out.mono ?_; rintro e w' ⟨rfl, rfl⟩) | (go_at_call 15; refine HVW.out.mono ?_; rintro e w' ⟨rfl, rfl⟩))
        refine HPR.out.mono ?_
        rintro e w4 ⟨vp, rfl, hrow, hb4⟩
        have HS4 := Lib.hid (HS.out.below hb4)
        have HB4 := Lib.hid (HB.out.trans (hb4.mono HB.out.size))
        have HR4 := Lib.hid hrow
        have R0 : Hid (EnRel w4 s 0 (.slice none 0 0) (.slice none 0 0) w4) := ⟨Below.refl _ _, World.ownsRow_nil _ _ _ _, World.ownsRow_nil _ _ _ _, fun g hg => by cases hg⟩
        clear hrow hb4
        obtain ⟨lo, hlo⟩ : ∃ lo, lo = s.low := ⟨_, rfl⟩
        have HLO := Lib.hid hlo
        rw [← hlo] at hl0 hl1
        rw [← HLO.out]
        clear hlo
        go_wp2_with fail
        go_loopw [12, 13, 14] (fun vd va n wx => ∃ q : Nat, q ≤ 16 ∧ n = .int .i64 (lo + 1 + (q : Int)) ∧ EnRel w4 s q vd va wx) (fun _ _ n _ => 17 - (intOf n - lo).toNat)
        case atStart => exact ⟨0, by omega, by simp, R0.out⟩
        case round =>
          obtain ⟨q, hq, rfl, hr⟩ := hrel
          have HR := Lib.hid hr
          clear hr
          by_cases hq16 : q < 16
          · have hle : lo + 1 + (q : Int) ≤ lo + 16 := by omega
            have HACC := Lib.hid (accepted_any I s (lo + 1 + (q : Int)) wr (HS4.out.below HR.out.below))
            have HDEC := Lib.hid (decided_any I s (lo + 1 + (q : Int)) wr (HS4.out.below HR.out.below))
            cases hd : aget s.dec (lo + 1 + (q : Int)) with
            | none =>
              cases hc : aget s.acc (lo + 1 + (q : Int)) with
              | none =>
                rw [hd] at HDEC
                rw [hc] at HACC
                simp only [Option.getD_none, Option.isSome_none] at HDEC HACC
                have HX : Hid ((-1 : Int) = numOf s.dec (s.low + 1 + (q : Int))) := by show _ = _; unfold numOf; rw [← HLO.out, hd]; rfl
                have HY2 : Hid ((-1 : Int) = numOf s.acc (s.low + 1 + (q : Int))) := by show _ = _; unfold numOf; rw [← HLO.out, hc]; rfl
                clear hd hc
                go_wp2_with (first | (go_at_call 13; refine HACC.out.mono ?_; rintro e w' ⟨rfl, rfl⟩) | (go_at_call 14; refine HDEC.out.mono ?_; rintro e w' ⟨rfl, rfl⟩) | (at_builtin; refine wpList_append_lies _ rfl _ _ 30 rfl w4.heap.size 3 i0 (.int .i64 0) 1 8 Try.underlying30 HI0.out HZ.out HSZ.out HY.out rfl (by decide) _ _ _ rfl (HR.out.dec.alloc _) ⟨wr.heap.size, 0, none⟩ 1 1 [.int .i64 (-1)] rfl rfl ?c1 ?c2 (by decide) ?c3 ?c4 ?c5 _ rfl ?_))
                case c1 => exact cell_one_new _ _ _
                case c2 => simp [Value.oneCell']
                case c3 => unfold maxLen; omega
                case c4 => omega
                case c5 => have := HR.out.below.size; simp; omega
                intro g1 cap1 w5 hown hgrow hat _
                have HM := Lib.hid (HR.out.first HX.out hown hgrow (fun g hg => by
                  have e : g1 = g := by simpa [Value.ownBlock] using hg
                  subst e
                  simpa using hat))
                clear hown hgrow hat
                go_wp2_with (at_builtin; refine wpList_append_lies _ rfl _ _ 30 rfl w4.heap.size 3 i0 (.int .i64 0) 1 8 Try.underlying30 HI0.out HZ.out HSZ.out HY.out rfl (by decide) _ _ _ rfl (HM.out.acc.alloc _) ⟨w5.heap.size, 0, none⟩ 1 1 [.int .i64 (-1)] rfl rfl ?e1 ?e2 (by decide) ?e3 ?e4 ?e5 _ rfl ?_)
                case e1 => exact cell_one_new _ _ _
                case e2 => simp [Value.oneCell']
                case e3 => unfold maxLen; omega
                case e4 => omega
                case e5 => have := HM.out.below.size; simp; omega
                intro g2 cap2 w6 hown hgrow hat _
                have HE := Lib.hid (HM.out.second HY2.out hown hgrow (fun g hg => by
                  have e : g2 = g := by simpa [Value.ownBlock] using hg
                  subst e
                  simpa using hat))
                clear hown hgrow hat
                go_wp2_with fail
                exact ⟨⟨q + 1, by omega, by simp; omega, HE.out⟩, by simp [intOf]; omega⟩
              | some yv =>
                rw [hd] at HDEC
                rw [hc] at HACC
                simp only [Option.getD_none, Option.isSome_none, Option.getD_some, Option.isSome_some] at HDEC HACC
                have HX : Hid ((-1 : Int) = numOf s.dec (s.low + 1 + (q : Int))) := by show _ = _; unfold numOf; rw [← HLO.out, hd]; rfl
                have HY2 : Hid ((yv : Int) = numOf s.acc (s.low + 1 + (q : Int))) := by show _ = _; unfold numOf; rw [← HLO.out, hc]; rfl
                clear hd hc
                go_wp2_with (first | (go_at_call 13; refine HACC.out.mono ?_; rintro e w' ⟨rfl, rfl⟩) | (go_at_call 14; refine HDEC.out.mono ?_; rintro e w' ⟨rfl, rfl⟩) | (at_builtin; refine wpList_append_lies _ rfl _ _ 30 rfl w4.heap.size 3 i0 (.int .i64 0) 1 8 Try.underlying30 HI0.out HZ.out HSZ.out HY.out rfl (by decide) _ _ _ rfl (HR.out.dec.alloc _) ⟨wr.heap.size, 0, none⟩ 1 1 [.int .i64 (-1)] rfl rfl ?c1 ?c2 (by decide) ?c3 ?c4 ?c5 _ rfl ?_))
                case c1 => exact cell_one_new _ _ _
                case c2 => simp [Value.oneCell']
                case c3 => unfold maxLen; omega
                case c4 => omega
                case c5 => have := HR.out.below.size; simp; omega
                intro g1 cap1 w5 hown hgrow hat _
                have HM := Lib.hid (HR.out.first HX.out hown hgrow (fun g hg => by
                  have e : g1 = g := by simpa [Value.ownBlock] using hg
                  subst e
                  simpa using hat))
                clear hown hgrow hat
                go_wp2_with (at_builtin; refine wpList_append_lies _ rfl _ _ 30 rfl w4.heap.size 3 i0 (.int .i64 0) 1 8 Try.underlying30 HI0.out HZ.out HSZ.out HY.out rfl (by decide) _ _ _ rfl (HM.out.acc.alloc _) ⟨w5.heap.size, 0, none⟩ 1 1 [.int .i64 (yv)] rfl rfl ?e1 ?e2 (by decide) ?e3 ?e4 ?e5 _ rfl ?_)
                case e1 => exact cell_one_new _ _ _
                case e2 => simp [Value.oneCell']
                case e3 => unfold maxLen; omega
                case e4 => omega
                case e5 => have := HM.out.below.size; simp; omega
                intro g2 cap2 w6 hown hgrow hat _
                have HE := Lib.hid (HM.out.second HY2.out hown hgrow (fun g hg => by
                  have e : g2 = g := by simpa [Value.ownBlock] using hg
                  subst e
                  simpa using hat))
                clear hown hgrow hat
                go_wp2_with fail
                exact ⟨⟨q + 1, by omega, by simp; omega, HE.out⟩, by simp [intOf]; omega⟩
            | some xv =>
              cases hc : aget s.acc (lo + 1 + (q : Int)) with
              | none =>
                rw [hd] at HDEC
                rw [hc] at HACC
                simp only [Option.getD_none, Option.isSome_none, Option.getD_some, Option.isSome_some] at HDEC HACC
                have HX : Hid ((xv : Int) = numOf s.dec (s.low + 1 + (q : Int))) := by show _ = _; unfold numOf; rw [← HLO.out, hd]; rfl
                have HY2 : Hid ((-1 : Int) = numOf s.acc (s.low + 1 + (q : Int))) := by show _ = _; unfold numOf; rw [← HLO.out, hc]; rfl
                clear hd hc
                go_wp2_with (first | (go_at_call 13; refine HACC.out.mono ?_; rintro e w' ⟨rfl, rfl⟩) | (go_at_call 14; refine HDEC.out.mono ?_; rintro e w' ⟨rfl, rfl⟩) | (at_builtin; refine wpList_append_lies _ rfl _ _ 30 rfl w4.heap.size 3 i0 (.int .i64 0) 1 8 Try.underlying30 HI0.out HZ.out HSZ.out HY.out rfl (by decide) _ _ _ rfl (HR.out.dec.alloc _) ⟨wr.heap.size, 0, none⟩ 1 1 [.int .i64 (xv)] rfl rfl ?c1 ?c2 (by decide) ?c3 ?c4 ?c5 _ rfl ?_))
                case c1 => exact cell_one_new _ _ _
                case c2 => simp [Value.oneCell']
                case c3 => unfold maxLen; omega
                case c4 => omega
                case c5 => have := HR.out.below.size; simp; omega
                intro g1 cap1 w5 hown hgrow hat _
                have HM := Lib.hid (HR.out.first HX.out hown hgrow (fun g hg => by
                  have e : g1 = g := by simpa [Value.ownBlock] using hg
                  subst e
                  simpa using hat))
                clear hown hgrow hat
                go_wp2_with (at_builtin; refine wpList_append_lies _ rfl _ _ 30 rfl w4.heap.size 3 i0 (.int .i64 0) 1 8 Try.underlying30 HI0.out HZ.out HSZ.out HY.out rfl (by decide) _ _ _ rfl (HM.out.acc.alloc _) ⟨w5.heap.size, 0, none⟩ 1 1 [.int .i64 (-1)] rfl rfl ?e1 ?e2 (by decide) ?e3 ?e4 ?e5 _ rfl ?_)
                case e1 => exact cell_one_new _ _ _
                case e2 => simp [Value.oneCell']
                case e3 => unfold maxLen; omega
                case e4 => omega
                case e5 => have := HM.out.below.size; simp; omega
                intro g2 cap2 w6 hown hgrow hat _
                have HE := Lib.hid (HM.out.second HY2.out hown hgrow (fun g hg => by
                  have e : g2 = g := by simpa [Value.ownBlock] using hg
                  subst e
                  simpa using hat))
                clear hown hgrow hat
                go_wp2_with fail
                exact ⟨⟨q + 1, by omega, by simp; omega, HE.out⟩, by simp [intOf]; omega⟩
              | some yv =>
                rw [hd] at HDEC
                rw [hc] at HACC
                simp only [Option.getD_some, Option.isSome_some] at HDEC HACC
                have HX : Hid ((xv : Int) = numOf s.dec (s.low + 1 + (q : Int))) := by show _ = _; unfold numOf; rw [← HLO.out, hd]; rfl
                have HY2 : Hid ((yv : Int) = numOf s.acc (s.low + 1 + (q : Int))) := by show _ = _; unfold numOf; rw [← HLO.out, hc]; rfl
                clear hd hc
                go_wp2_with (first | (go_at_call 13; refine HACC.out.mono ?_; rintro e w' ⟨rfl, rfl⟩) | (go_at_call 14; refine HDEC.out.mono ?_; rintro e w' ⟨rfl, rfl⟩) | (at_builtin; refine wpList_append_lies _ rfl _ _ 30 rfl w4.heap.size 3 i0 (.int .i64 0) 1 8 Try.underlying30 HI0.out HZ.out HSZ.out HY.out rfl (by decide) _ _ _ rfl (HR.out.dec.alloc _) ⟨wr.heap.size, 0, none⟩ 1 1 [.int .i64 (xv)] rfl rfl ?c1 ?c2 (by decide) ?c3 ?c4 ?c5 _ rfl ?_))
                case c1 => exact cell_one_new _ _ _
                case c2 => simp [Value.oneCell']
                case c3 => unfold maxLen; omega
                case c4 => omega
                case c5 => have := HR.out.below.size; simp; omega
                intro g1 cap1 w5 hown hgrow hat _
                have HM := Lib.hid (HR.out.first HX.out hown hgrow (fun g hg => by
                  have e : g1 = g := by simpa [Value.ownBlock] using hg
                  subst e
                  simpa using hat))
                clear hown hgrow hat
                go_wp2_with (at_builtin; refine wpList_append_lies _ rfl _ _ 30 rfl w4.heap.size 3 i0 (.int .i64 0) 1 8 Try.underlying30 HI0.out HZ.out HSZ.out HY.out rfl (by decide) _ _ _ rfl (HM.out.acc.alloc _) ⟨w5.heap.size, 0, none⟩ 1 1 [.int .i64 (yv)] rfl rfl ?e1 ?e2 (by decide) ?e3 ?e4 ?e5 _ rfl ?_)
                case e1 => exact cell_one_new _ _ _
                case e2 => simp [Value.oneCell']
                case e3 => unfold maxLen; omega
                case e4 => omega
                case e5 => have := HM.out.below.size; simp; omega
                intro g2 cap2 w6 hown hgrow hat _
                have HE := Lib.hid (HM.out.second HY2.out hown hgrow (fun g hg => by
                  have e : g2 = g := by simpa [Value.ownBlock] using hg
                  subst e
                  simpa using hat))
                clear hown hgrow hat
                go_wp2_with fail
                exact ⟨⟨q + 1, by omega, by simp; omega, HE.out⟩, by simp [intOf]; omega⟩
          · obtain rfl : q = 16 := by omega
            have hgt : lo + 16 < lo + 1 + ((16 : Nat) : Int) := by omega
            have HR5 := Lib.hid HR.out
            go_wp2_with fail
            refine (HEN.out _ (HS4.out.below HR.out.below)).mono ?_
            rintro e w6 ⟨rfl, hs6, ht6⟩
            have HS6 := Lib.hid hs6
            have HB6 := Lib.hid (HB4.out.trans (HR.out.below.mono HB4.out.size) |>.trans (ht6.below (Nat.le_trans HB4.out.size HR.out.below.size) (fun j hj => Nat.le_trans B1.out.size (HI.out j hj))))
            have HD6 := Lib.hid (row_ids HR.out.dec HS4.out ht6)
            have HA6 := Lib.hid (row_ids HR.out.acc HS4.out ht6)
            have HP6 := Lib.hid (row_ids (row_below HR4.out HR.out.below) HS.out ht6)
            clear hs6 ht6 HR5
            obtain ⟨s', hs'⟩ : ∃ s', s' = enter s view := ⟨_, rfl⟩
            rw [← hs'] at HS6
            have HSS := Lib.hid hs'
            have HV6 : Hid (Inv s') := by show Inv s'; rw [hs']; exact inv_enter HV.out view
            obtain ⟨el, ed, ep⟩ : s'.low = lo ∧ s'.dec = s.dec ∧ s'.proofs = s.proofs := by rw [hs', HLO.out]; exact enter_low s view
            have EL := Lib.hid el
            have ED := Lib.hid ed
            have EP := Lib.hid (proofsL_of ep)
            clear hs' el ed ep
            have HLOW6 : Hid (Calls Try.prog 17 #[.pointer (some ⟨I.b, 0, none⟩)] w6 fun e w' => e = .returned (.int .i64 lo) ∧ w6 = w') := by
              have := low_any I.b s'.low w6 HS6.out.c0
              rw [EL.out] at this
              exact this
            have hll : (lo != lo) = false := by simp
            go_wp2_with (go_at_call 17; refine HLOW6.out.mono ?_; rintro e w' ⟨rfl, rfl⟩)
            refine (proofs_inv I s' w6 HS6.out HV6.out).mono ?_
            rintro e w7 ⟨v7, rfl, hrow7, hb7⟩
            have HS7 := Lib.hid (HS6.out.below hb7)
            have HB7 := Lib.hid (HB6.out.trans (hb7.mono HB6.out.size))
            have HD7 := Lib.hid (row_below HD6.out hb7)
            have HA7 := Lib.hid (row_below HA6.out hb7)
            rw [EP.out] at hrow7
            have HSA := Lib.hid (same_any w7 (proofsL s) _ _ _ _ hrow7 (row_below HP6.out hb7) (by have := inv_few HV.out; have := proofsL_len s; omega))
            clear hrow7 hb7
            go_wp2_with fail
            refine HSA.out.mono ?_
            rintro e w8 ⟨rfl, hb8⟩
            have HS8 := Lib.hid (HS7.out.below hb8)
            have HB8 := Lib.hid (HB7.out.trans (hb8.mono HB7.out.size))
            have HD8 := Lib.hid (row_below HD7.out hb8)
            have HA8 := Lib.hid (row_below HA7.out hb8)
            clear hb8
            obtain ⟨gd, cd, ed, _, hgd⟩ := HD8.out.form (by decide)
            obtain ⟨ga, ca, ea, _, hga⟩ := HA8.out.form (by decide)
            subst ed
            subst ea
            go_wp2_with fail
            have HEA : Hid (s'.acc = s.acc) := by
              show _ = _
              rw [HSS.out]
              unfold enter
              rw [← HLAT.out]
              rfl
            go_loop [20] (fun n => ∃ q : Nat, q ≤ 16 ∧ n = .int .i64 (lo + 1 + (q : Int))) (fun n => 17 - (intOf n - lo).toNat)
            case atStart => exact ⟨0, by omega, by simp⟩
            case round =>
              obtain ⟨q, hq, rfl⟩ := hrel
              by_cases hq16 : q < 16
              · have hle : lo + 1 + (q : Int) ≤ lo + 16 := by omega
                have HDEC := Lib.hid (decided_any I s' (lo + 1 + (q : Int)) w8 HS8.out)
                have HACC := Lib.hid (accepted_any I s' (lo + 1 + (q : Int)) w8 HS8.out)
                rw [ED.out] at HDEC
                rw [HEA.out] at HACC
                have kd : w8.cell? ⟨gd, q, none⟩ = some (.int .i64 (numOf s.dec (lo + 1 + (q : Int)))) := by
                  rw [HD8.out.cellAt q (by omega), List.getElem?_map, numsK_get _ _ hq16, HLO.out]
                  rfl
                have ka : w8.cell? ⟨ga, q, none⟩ = some (.int .i64 (numOf s.acc (lo + 1 + (q : Int)))) := by
                  rw [HA8.out.cellAt q (by omega), List.getElem?_map, numsK_get _ _ hq16, HLO.out]
                  rfl
                have hidx : lo + 1 + (q : Int) - lo = (q : Int) + 1 := by omega
                have hq0 : (0 : Int) ≤ (q : Int) := by omega
                have hq1 : (q : Int) < 16 := by omega
                unfold numOf at kd ka
                cases hd : aget s.dec (lo + 1 + (q : Int)) with
                | none =>
                  rw [hd] at HDEC kd
                  simp only [Option.getD_none, Option.isSome_none] at HDEC kd
                  clear hd
                  cases hc : aget s.acc (lo + 1 + (q : Int)) with
                  | none =>
                    rw [hc] at HACC ka
                    simp only [Option.getD_none, Option.isSome_none] at HACC ka
                    clear hc
                    go_wp2_with (first | (go_at_call 13; refine HACC.out.mono ?_; rintro e w' ⟨rfl, rfl⟩) | (go_at_call 14; refine HDEC.out.mono ?_; rintro e w' ⟨rfl, rfl⟩))
                    exact ⟨⟨q + 1, by omega, by simp; omega⟩, by simp [intOf]; omega⟩
                  | some yv =>
                    have hy0 : 0 ≤ yv := (HV.out.acc _ (aget_some_mem hc)).2
                    rw [hc] at HACC ka
                    simp only [Option.getD_some, Option.isSome_some] at HACC ka
                    have hyy : (yv != yv) = false := by simp
                    clear hc
                    go_wp2_with (first | (go_at_call 13; refine HACC.out.mono ?_; rintro e w' ⟨rfl, rfl⟩) | (go_at_call 14; refine HDEC.out.mono ?_; rintro e w' ⟨rfl, rfl⟩))
                    exact ⟨⟨q + 1, by omega, by simp; omega⟩, by simp [intOf]; omega⟩
                | some xv =>
                  have hx0 : 0 ≤ xv := (HV.out.dec _ (aget_some_mem hd)).2
                  rw [hd] at HDEC kd
                  simp only [Option.getD_some, Option.isSome_some] at HDEC kd
                  have hxx : (xv != xv) = false := by simp
                  clear hd
                  cases hc : aget s.acc (lo + 1 + (q : Int)) with
                  | none =>
                    rw [hc] at HACC ka
                    simp only [Option.getD_none, Option.isSome_none] at HACC ka
                    clear hc
                    go_wp2_with (first | (go_at_call 13; refine HACC.out.mono ?_; rintro e w' ⟨rfl, rfl⟩) | (go_at_call 14; refine HDEC.out.mono ?_; rintro e w' ⟨rfl, rfl⟩))
                    exact ⟨⟨q + 1, by omega, by simp; omega⟩, by simp [intOf]; omega⟩
                  | some yv =>
                    have hy0 : 0 ≤ yv := (HV.out.acc _ (aget_some_mem hc)).2
                    rw [hc] at HACC ka
                    simp only [Option.getD_some, Option.isSome_some] at HACC ka
                    have hyy : (yv != yv) = false := by simp
                    clear hc
                    go_wp2_with (first | (go_at_call 13; refine HACC.out.mono ?_; rintro e w' ⟨rfl, rfl⟩) | (go_at_call 14; refine HDEC.out.mono ?_; rintro e w' ⟨rfl, rfl⟩))
                    exact ⟨⟨q + 1, by omega, by simp; omega⟩, by simp [intOf]; omega⟩
              · obtain rfl : q = 16 := by omega
                have hgt : lo + 16 < lo + 1 + ((16 : Nat) : Int) := by omega
                go_wp2_with fail
                go_ret
                exact ⟨rfl, HB8.out⟩
      · have HEN : Hid (∀ W, SlotsAt W I s → Calls Try.prog 25 #[.pointer (some ⟨I.b, 0, none⟩), .int .i64 view] W (Left W I false (enter s view))) := fun W hW => by
          have := enter_any I s view W hW
          rwa [← HLAT.out] at this
        have hb0 : decide (s.view < view) = false := by simp; omega
        go_wp2_with (first | (go_at_call 17; refine HLOW.out.mono ?_; rintro e w' ⟨rfl, rfl⟩) | (go_at_call 15; refine HVW.out.mono ?_; rintro e w' ⟨rfl, rfl⟩))
        refine HPR.out.mono ?_
        rintro e w4 ⟨vp, rfl, hrow, hb4⟩
        have HS4 := Lib.hid (HS.out.below hb4)
        have HB4 := Lib.hid (HB.out.trans (hb4.mono HB.out.size))
        have HR4 := Lib.hid hrow
        have R0 : Hid (EnRel w4 s 0 (.slice none 0 0) (.slice none 0 0) w4) := ⟨Below.refl _ _, World.ownsRow_nil _ _ _ _, World.ownsRow_nil _ _ _ _, fun g hg => by cases hg⟩
        clear hrow hb4
        obtain ⟨lo, hlo⟩ : ∃ lo, lo = s.low := ⟨_, rfl⟩
        have HLO := Lib.hid hlo
        rw [← hlo] at hl0 hl1
        rw [← HLO.out]
        clear hlo
        go_wp2_with fail
        go_loopw [12, 13, 14] (fun vd va n wx => ∃ q : Nat, q ≤ 16 ∧ n = .int .i64 (lo + 1 + (q : Int)) ∧ EnRel w4 s q vd va wx) (fun _ _ n _ => 17 - (intOf n - lo).toNat)
        case atStart => exact ⟨0, by omega, by simp, R0.out⟩
        case round =>
          obtain ⟨q, hq, rfl, hr⟩ := hrel
          have HR := Lib.hid hr
          clear hr
          by_cases hq16 : q < 16
          · have hle : lo + 1 + (q : Int) ≤ lo + 16 := by omega
            have HACC := Lib.hid (accepted_any I s (lo + 1 + (q : Int)) wr (HS4.out.below HR.out.below))
            have HDEC := Lib.hid (decided_any I s (lo + 1 + (q : Int)) wr (HS4.out.below HR.out.below))
            cases hd : aget s.dec (lo + 1 + (q : Int)) with
            | none =>
              cases hc : aget s.acc (lo + 1 + (q : Int)) with
              | none =>
                rw [hd] at HDEC
                rw [hc] at HACC
                simp only [Option.getD_none, Option.isSome_none] at HDEC HACC
                have HX : Hid ((-1 : Int) = numOf s.dec (s.low + 1 + (q : Int))) := by show _ = _; unfold numOf; rw [← HLO.out, hd]; rfl
                have HY2 : Hid ((-1 : Int) = numOf s.acc (s.low + 1 + (q : Int))) := by show _ = _; unfold numOf; rw [← HLO.out, hc]; rfl
                clear hd hc
                go_wp2_with (first | (go_at_call 13; refine HACC.out.mono ?_; rintro e w' ⟨rfl, rfl⟩) | (go_at_call 14; refine HDEC.out.mono ?_; rintro e w' ⟨rfl, rfl⟩) | (at_builtin; refine wpList_append_lies _ rfl _ _ 30 rfl w4.heap.size 3 i0 (.int .i64 0) 1 8 Try.underlying30 HI0.out HZ.out HSZ.out HY.out rfl (by decide) _ _ _ rfl (HR.out.dec.alloc _) ⟨wr.heap.size, 0, none⟩ 1 1 [.int .i64 (-1)] rfl rfl ?c1 ?c2 (by decide) ?c3 ?c4 ?c5 _ rfl ?_))
                case c1 => exact cell_one_new _ _ _
                case c2 => simp [Value.oneCell']
                case c3 => unfold maxLen; omega
                case c4 => omega
                case c5 => have := HR.out.below.size; simp; omega
                intro g1 cap1 w5 hown hgrow hat _
                have HM := Lib.hid (HR.out.first HX.out hown hgrow (fun g hg => by
                  have e : g1 = g := by simpa [Value.ownBlock] using hg
                  subst e
                  simpa using hat))
                clear hown hgrow hat
                go_wp2_with (at_builtin; refine wpList_append_lies _ rfl _ _ 30 rfl w4.heap.size 3 i0 (.int .i64 0) 1 8 Try.underlying30 HI0.out HZ.out HSZ.out HY.out rfl (by decide) _ _ _ rfl (HM.out.acc.alloc _) ⟨w5.heap.size, 0, none⟩ 1 1 [.int .i64 (-1)] rfl rfl ?e1 ?e2 (by decide) ?e3 ?e4 ?e5 _ rfl ?_)
                case e1 => exact cell_one_new _ _ _
                case e2 => simp [Value.oneCell']
                case e3 => unfold maxLen; omega
                case e4 => omega
                case e5 => have := HM.out.below.size; simp; omega
                intro g2 cap2 w6 hown hgrow hat _
                have HE := Lib.hid (HM.out.second HY2.out hown hgrow (fun g hg => by
                  have e : g2 = g := by simpa [Value.ownBlock] using hg
                  subst e
                  simpa using hat))
                clear hown hgrow hat
                go_wp2_with fail
                exact ⟨⟨q + 1, by omega, by simp; omega, HE.out⟩, by simp [intOf]; omega⟩
              | some yv =>
                rw [hd] at HDEC
                rw [hc] at HACC
                simp only [Option.getD_none, Option.isSome_none, Option.getD_some, Option.isSome_some] at HDEC HACC
                have HX : Hid ((-1 : Int) = numOf s.dec (s.low + 1 + (q : Int))) := by show _ = _; unfold numOf; rw [← HLO.out, hd]; rfl
                have HY2 : Hid ((yv : Int) = numOf s.acc (s.low + 1 + (q : Int))) := by show _ = _; unfold numOf; rw [← HLO.out, hc]; rfl
                clear hd hc
                go_wp2_with (first | (go_at_call 13; refine HACC.out.mono ?_; rintro e w' ⟨rfl, rfl⟩) | (go_at_call 14; refine HDEC.out.mono ?_; rintro e w' ⟨rfl, rfl⟩) | (at_builtin; refine wpList_append_lies _ rfl _ _ 30 rfl w4.heap.size 3 i0 (.int .i64 0) 1 8 Try.underlying30 HI0.out HZ.out HSZ.out HY.out rfl (by decide) _ _ _ rfl (HR.out.dec.alloc _) ⟨wr.heap.size, 0, none⟩ 1 1 [.int .i64 (-1)] rfl rfl ?c1 ?c2 (by decide) ?c3 ?c4 ?c5 _ rfl ?_))
                case c1 => exact cell_one_new _ _ _
                case c2 => simp [Value.oneCell']
                case c3 => unfold maxLen; omega
                case c4 => omega
                case c5 => have := HR.out.below.size; simp; omega
                intro g1 cap1 w5 hown hgrow hat _
                have HM := Lib.hid (HR.out.first HX.out hown hgrow (fun g hg => by
                  have e : g1 = g := by simpa [Value.ownBlock] using hg
                  subst e
                  simpa using hat))
                clear hown hgrow hat
                go_wp2_with (at_builtin; refine wpList_append_lies _ rfl _ _ 30 rfl w4.heap.size 3 i0 (.int .i64 0) 1 8 Try.underlying30 HI0.out HZ.out HSZ.out HY.out rfl (by decide) _ _ _ rfl (HM.out.acc.alloc _) ⟨w5.heap.size, 0, none⟩ 1 1 [.int .i64 (yv)] rfl rfl ?e1 ?e2 (by decide) ?e3 ?e4 ?e5 _ rfl ?_)
                case e1 => exact cell_one_new _ _ _
                case e2 => simp [Value.oneCell']
                case e3 => unfold maxLen; omega
                case e4 => omega
                case e5 => have := HM.out.below.size; simp; omega
                intro g2 cap2 w6 hown hgrow hat _
                have HE := Lib.hid (HM.out.second HY2.out hown hgrow (fun g hg => by
                  have e : g2 = g := by simpa [Value.ownBlock] using hg
                  subst e
                  simpa using hat))
                clear hown hgrow hat
                go_wp2_with fail
                exact ⟨⟨q + 1, by omega, by simp; omega, HE.out⟩, by simp [intOf]; omega⟩
            | some xv =>
              cases hc : aget s.acc (lo + 1 + (q : Int)) with
              | none =>
                rw [hd] at HDEC
                rw [hc] at HACC
                simp only [Option.getD_none, Option.isSome_none, Option.getD_some, Option.isSome_some] at HDEC HACC
                have HX : Hid ((xv : Int) = numOf s.dec (s.low + 1 + (q : Int))) := by show _ = _; unfold numOf; rw [← HLO.out, hd]; rfl
                have HY2 : Hid ((-1 : Int) = numOf s.acc (s.low + 1 + (q : Int))) := by show _ = _; unfold numOf; rw [← HLO.out, hc]; rfl
                clear hd hc
                go_wp2_with (first | (go_at_call 13; refine HACC.out.mono ?_; rintro e w' ⟨rfl, rfl⟩) | (go_at_call 14; refine HDEC.out.mono ?_; rintro e w' ⟨rfl, rfl⟩) | (at_builtin; refine wpList_append_lies _ rfl _ _ 30 rfl w4.heap.size 3 i0 (.int .i64 0) 1 8 Try.underlying30 HI0.out HZ.out HSZ.out HY.out rfl (by decide) _ _ _ rfl (HR.out.dec.alloc _) ⟨wr.heap.size, 0, none⟩ 1 1 [.int .i64 (xv)] rfl rfl ?c1 ?c2 (by decide) ?c3 ?c4 ?c5 _ rfl ?_))
                case c1 => exact cell_one_new _ _ _
                case c2 => simp [Value.oneCell']
                case c3 => unfold maxLen; omega
                case c4 => omega
                case c5 => have := HR.out.below.size; simp; omega
                intro g1 cap1 w5 hown hgrow hat _
                have HM := Lib.hid (HR.out.first HX.out hown hgrow (fun g hg => by
                  have e : g1 = g := by simpa [Value.ownBlock] using hg
                  subst e
                  simpa using hat))
                clear hown hgrow hat
                go_wp2_with (at_builtin; refine wpList_append_lies _ rfl _ _ 30 rfl w4.heap.size 3 i0 (.int .i64 0) 1 8 Try.underlying30 HI0.out HZ.out HSZ.out HY.out rfl (by decide) _ _ _ rfl (HM.out.acc.alloc _) ⟨w5.heap.size, 0, none⟩ 1 1 [.int .i64 (-1)] rfl rfl ?e1 ?e2 (by decide) ?e3 ?e4 ?e5 _ rfl ?_)
                case e1 => exact cell_one_new _ _ _
                case e2 => simp [Value.oneCell']
                case e3 => unfold maxLen; omega
                case e4 => omega
                case e5 => have := HM.out.below.size; simp; omega
                intro g2 cap2 w6 hown hgrow hat _
                have HE := Lib.hid (HM.out.second HY2.out hown hgrow (fun g hg => by
                  have e : g2 = g := by simpa [Value.ownBlock] using hg
                  subst e
                  simpa using hat))
                clear hown hgrow hat
                go_wp2_with fail
                exact ⟨⟨q + 1, by omega, by simp; omega, HE.out⟩, by simp [intOf]; omega⟩
              | some yv =>
                rw [hd] at HDEC
                rw [hc] at HACC
                simp only [Option.getD_some, Option.isSome_some] at HDEC HACC
                have HX : Hid ((xv : Int) = numOf s.dec (s.low + 1 + (q : Int))) := by show _ = _; unfold numOf; rw [← HLO.out, hd]; rfl
                have HY2 : Hid ((yv : Int) = numOf s.acc (s.low + 1 + (q : Int))) := by show _ = _; unfold numOf; rw [← HLO.out, hc]; rfl
                clear hd hc
                go_wp2_with (first | (go_at_call 13; refine HACC.out.mono ?_; rintro e w' ⟨rfl, rfl⟩) | (go_at_call 14; refine HDEC.out.mono ?_; rintro e w' ⟨rfl, rfl⟩) | (at_builtin; refine wpList_append_lies _ rfl _ _ 30 rfl w4.heap.size 3 i0 (.int .i64 0) 1 8 Try.underlying30 HI0.out HZ.out HSZ.out HY.out rfl (by decide) _ _ _ rfl (HR.out.dec.alloc _) ⟨wr.heap.size, 0, none⟩ 1 1 [.int .i64 (xv)] rfl rfl ?c1 ?c2 (by decide) ?c3 ?c4 ?c5 _ rfl ?_))
                case c1 => exact cell_one_new _ _ _
                case c2 => simp [Value.oneCell']
                case c3 => unfold maxLen; omega
                case c4 => omega
                case c5 => have := HR.out.below.size; simp; omega
                intro g1 cap1 w5 hown hgrow hat _
                have HM := Lib.hid (HR.out.first HX.out hown hgrow (fun g hg => by
                  have e : g1 = g := by simpa [Value.ownBlock] using hg
                  subst e
                  simpa using hat))
                clear hown hgrow hat
                go_wp2_with (at_builtin; refine wpList_append_lies _ rfl _ _ 30 rfl w4.heap.size 3 i0 (.int .i64 0) 1 8 Try.underlying30 HI0.out HZ.out HSZ.out HY.out rfl (by decide) _ _ _ rfl (HM.out.acc.alloc _) ⟨w5.heap.size, 0, none⟩ 1 1 [.int .i64 (yv)] rfl rfl ?e1 ?e2 (by decide) ?e3 ?e4 ?e5 _ rfl ?_)
                case e1 => exact cell_one_new _ _ _
                case e2 => simp [Value.oneCell']
                case e3 => unfold maxLen; omega
                case e4 => omega
                case e5 => have := HM.out.below.size; simp; omega
                intro g2 cap2 w6 hown hgrow hat _
                have HE := Lib.hid (HM.out.second HY2.out hown hgrow (fun g hg => by
                  have e : g2 = g := by simpa [Value.ownBlock] using hg
                  subst e
                  simpa using hat))
                clear hown hgrow hat
                go_wp2_with fail
                exact ⟨⟨q + 1, by omega, by simp; omega, HE.out⟩, by simp [intOf]; omega⟩
          · obtain rfl : q = 16 := by omega
            have hgt : lo + 16 < lo + 1 + ((16 : Nat) : Int) := by omega
            have HR5 := Lib.hid HR.out
            go_wp2_with fail
            refine (HEN.out _ (HS4.out.below HR.out.below)).mono ?_
            rintro e w6 ⟨rfl, hs6, ht6⟩
            have HS6 := Lib.hid hs6
            have HB6 := Lib.hid (HB4.out.trans (HR.out.below.mono HB4.out.size) |>.trans (ht6.below (Nat.le_trans HB4.out.size HR.out.below.size) (fun j hj => Nat.le_trans B1.out.size (HI.out j hj))))
            have HD6 := Lib.hid (row_ids HR.out.dec HS4.out ht6)
            have HA6 := Lib.hid (row_ids HR.out.acc HS4.out ht6)
            have HP6 := Lib.hid (row_ids (row_below HR4.out HR.out.below) HS.out ht6)
            clear hs6 ht6 HR5
            obtain ⟨s', hs'⟩ : ∃ s', s' = enter s view := ⟨_, rfl⟩
            rw [← hs'] at HS6
            have HSS := Lib.hid hs'
            have HV6 : Hid (Inv s') := by show Inv s'; rw [hs']; exact inv_enter HV.out view
            obtain ⟨el, ed, ep⟩ : s'.low = lo ∧ s'.dec = s.dec ∧ s'.proofs = s.proofs := by rw [hs', HLO.out]; exact enter_low s view
            have EL := Lib.hid el
            have ED := Lib.hid ed
            have EP := Lib.hid (proofsL_of ep)
            clear hs' el ed ep
            have HLOW6 : Hid (Calls Try.prog 17 #[.pointer (some ⟨I.b, 0, none⟩)] w6 fun e w' => e = .returned (.int .i64 lo) ∧ w6 = w') := by
              have := low_any I.b s'.low w6 HS6.out.c0
              rw [EL.out] at this
              exact this
            have hll : (lo != lo) = false := by simp
            go_wp2_with (go_at_call 17; refine HLOW6.out.mono ?_; rintro e w' ⟨rfl, rfl⟩)
            refine (proofs_inv I s' w6 HS6.out HV6.out).mono ?_
            rintro e w7 ⟨v7, rfl, hrow7, hb7⟩
            have HS7 := Lib.hid (HS6.out.below hb7)
            have HB7 := Lib.hid (HB6.out.trans (hb7.mono HB6.out.size))
            have HD7 := Lib.hid (row_below HD6.out hb7)
            have HA7 := Lib.hid (row_below HA6.out hb7)
            rw [EP.out] at hrow7
            have HSA := Lib.hid (same_any w7 (proofsL s) _ _ _ _ hrow7 (row_below HP6.out hb7) (by have := inv_few HV.out; have := proofsL_len s; omega))
            clear hrow7 hb7
            go_wp2_with fail
            refine HSA.out.mono ?_
            rintro e w8 ⟨rfl, hb8⟩
            have HS8 := Lib.hid (HS7.out.below hb8)
            have HB8 := Lib.hid (HB7.out.trans (hb8.mono HB7.out.size))
            have HD8 := Lib.hid (row_below HD7.out hb8)
            have HA8 := Lib.hid (row_below HA7.out hb8)
            clear hb8
            obtain ⟨gd, cd, ed, _, hgd⟩ := HD8.out.form (by decide)
            obtain ⟨ga, ca, ea, _, hga⟩ := HA8.out.form (by decide)
            subst ed
            subst ea
            go_wp2_with fail
            have HEA : Hid (s'.acc = s.acc) := by
              show _ = _
              rw [HSS.out]
              unfold enter
              rw [← HLAT.out]
              rfl
            go_loop [20] (fun n => ∃ q : Nat, q ≤ 16 ∧ n = .int .i64 (lo + 1 + (q : Int))) (fun n => 17 - (intOf n - lo).toNat)
            case atStart => exact ⟨0, by omega, by simp⟩
            case round =>
              obtain ⟨q, hq, rfl⟩ := hrel
              by_cases hq16 : q < 16
              · have hle : lo + 1 + (q : Int) ≤ lo + 16 := by omega
                have HDEC := Lib.hid (decided_any I s' (lo + 1 + (q : Int)) w8 HS8.out)
                have HACC := Lib.hid (accepted_any I s' (lo + 1 + (q : Int)) w8 HS8.out)
                rw [ED.out] at HDEC
                rw [HEA.out] at HACC
                have kd : w8.cell? ⟨gd, q, none⟩ = some (.int .i64 (numOf s.dec (lo + 1 + (q : Int)))) := by
                  rw [HD8.out.cellAt q (by omega), List.getElem?_map, numsK_get _ _ hq16, HLO.out]
                  rfl
                have ka : w8.cell? ⟨ga, q, none⟩ = some (.int .i64 (numOf s.acc (lo + 1 + (q : Int)))) := by
                  rw [HA8.out.cellAt q (by omega), List.getElem?_map, numsK_get _ _ hq16, HLO.out]
                  rfl
                have hidx : lo + 1 + (q : Int) - lo = (q : Int) + 1 := by omega
                have hq0 : (0 : Int) ≤ (q : Int) := by omega
                have hq1 : (q : Int) < 16 := by omega
                unfold numOf at kd ka
                cases hd : aget s.dec (lo + 1 + (q : Int)) with
                | none =>
                  rw [hd] at HDEC kd
                  simp only [Option.getD_none, Option.isSome_none] at HDEC kd
                  clear hd
                  cases hc : aget s.acc (lo + 1 + (q : Int)) with
                  | none =>
                    rw [hc] at HACC ka
                    simp only [Option.getD_none, Option.isSome_none] at HACC ka
                    clear hc
                    go_wp2_with (first | (go_at_call 13; refine HACC.out.mono ?_; rintro e w' ⟨rfl, rfl⟩) | (go_at_call 14; refine HDEC.out.mono ?_; rintro e w' ⟨rfl, rfl⟩))
                    exact ⟨⟨q + 1, by omega, by simp; omega⟩, by simp [intOf]; omega⟩
                  | some yv =>
                    have hy0 : 0 ≤ yv := (HV.out.acc _ (aget_some_mem hc)).2
                    rw [hc] at HACC ka
                    simp only [Option.getD_some, Option.isSome_some] at HACC ka
                    have hyy : (yv != yv) = false := by simp
                    clear hc
                    go_wp2_with (first | (go_at_call 13; refine HACC.out.mono ?_; rintro e w' ⟨rfl, rfl⟩) | (go_at_call 14; refine HDEC.out.mono ?_; rintro e w' ⟨rfl, rfl⟩))
                    exact ⟨⟨q + 1, by omega, by simp; omega⟩, by simp [intOf]; omega⟩
                | some xv =>
                  have hx0 : 0 ≤ xv := (HV.out.dec _ (aget_some_mem hd)).2
                  rw [hd] at HDEC kd
                  simp only [Option.getD_some, Option.isSome_some] at HDEC kd
                  have hxx : (xv != xv) = false := by simp
                  clear hd
                  cases hc : aget s.acc (lo + 1 + (q : Int)) with
                  | none =>
                    rw [hc] at HACC ka
                    simp only [Option.getD_none, Option.isSome_none] at HACC ka
                    clear hc
                    go_wp2_with (first | (go_at_call 13; refine HACC.out.mono ?_; rintro e w' ⟨rfl, rfl⟩) | (go_at_call 14; refine HDEC.out.mono ?_; rintro e w' ⟨rfl, rfl⟩))
                    exact ⟨⟨q + 1, by omega, by simp; omega⟩, by simp [intOf]; omega⟩
                  | some yv =>
                    have hy0 : 0 ≤ yv := (HV.out.acc _ (aget_some_mem hc)).2
                    rw [hc] at HACC ka
                    simp only [Option.getD_some, Option.isSome_some] at HACC ka
                    have hyy : (yv != yv) = false := by simp
                    clear hc
                    go_wp2_with (first | (go_at_call 13; refine HACC.out.mono ?_; rintro e w' ⟨rfl, rfl⟩) | (go_at_call 14; refine HDEC.out.mono ?_; rintro e w' ⟨rfl, rfl⟩))
                    exact ⟨⟨q + 1, by omega, by simp; omega⟩, by simp [intOf]; omega⟩
              · obtain rfl : q = 16 := by omega
                have hgt : lo + 16 < lo + 1 + ((16 : Nat) : Int) := by omega
                go_wp2_with fail
                go_ret
                exact ⟨rfl, HB8.out⟩
end Go.Proofs.Ytelmgaaofighpaa
