/- Book: the law of own digests, the walk. -/
import Derived.Test.YtbipncgfbpdpjaaOwn
namespace Go.Proofs.Ytbipncgfbpdpjaa
open Go.RowKit Go.My

set_option maxRecDepth 100000 in
set_option maxHeartbeats 3200000 in
theorem own_law (a : Option Addr) (l : List ByteArray) (cap : Nat) (w : World) (ha : ListAt w a 1 RowOf l) (hm : l.length ≤ maxLen) : Calls Try.prog 3 #[.slice a l.length cap] w fun e w' => e = .returned (.bool true) ∧ Below w.heap.size w w' := by
  have HA := Lib.hid ha
  have HM := Lib.hid hm
  clear ha hm
  have HG := Lib.hid (fun W (hW : Below w.heap.size w W) => great_any a l cap W w HA.out hW HM.out)
  obtain ⟨len, hlen⟩ : ∃ len, len = l.length := ⟨_, rfl⟩
  have HL := Lib.hid hlen
  rw [← hlen] at HG HM ⊢
  clear hlen
  obtain ⟨i0, hi0, hz0, hz1, hz2⟩ := info_parts int_info
  have HI := Lib.hid hi0
  have HZ := Lib.hid hz0
  have HS := Lib.hid hz1
  have HY := Lib.hid hz2
  clear hi0 hz0 hz1 hz2
  go_enter Try.func3, Try.ntmps3
  go_wp2_with (go_at_call 6; refine (head_any _).mono ?_; rintro e w1 ⟨rfl, hb1⟩; have B1 := Lib.hid hb1; clear hb1)
  refine (new_any _).mono ?_
  rintro e w2 ⟨b, m, v, rfl, hs, hb⟩
  have hbase : w.heap.size ≤ w1.heap.size := B1.out.size
  have R2 : Hid (OwnRel w w1.heap.size b m l 0 (.slice none 0 0) w2) := ⟨[], [], v, ⟨hs, by simp, by simp, B1.out.trans (hb.mono B1.out.size), hb.size, World.ownsRow_nil _ _ _ _⟩, Told.nil l⟩
  have B2 := Lib.hid (B1.out.trans (hb.mono B1.out.size))
  clear hs hb B1
  generalize w1.heap.size = base at *
  go_wp2_with fail
  refine (HG.out _ B2.out).mono ?_
  rintro e w3 ⟨g, rfl, hg, rfl⟩
  cases g with
  | true =>
    clear hg
    go_wp2_with fail
    go_ret
    exact ⟨rfl, B2.out⟩
  | false =>
    obtain ⟨hl, _⟩ := hg rfl
    rw [← HL.out] at hl
    clear hg
    go_wp2_with fail
    go_loopw [5, 6] (fun all i wr => ∃ k : Nat, k ≤ len ∧ i = .int .i64 k ∧ OwnRel w base b m l k all wr) (fun _ i _ => len - (intOf i).toNat)
    case atStart => exact ⟨0, by omega, rfl, R2.out⟩
    case round =>
      clear R2 B2
      obtain ⟨k, hk, rfl, ts, ds, v, hh, ht⟩ := hrel
      have HH := Lib.hid hh
      have HT := Lib.hid ht
      clear hh ht
      by_cases hlt : k < len
      · have hok : l[k]? = some (l[k]'(by rw [← HL.out]; exact hlt)) := List.getElem?_eq_getElem _
        obtain ⟨s, hs⟩ : ∃ s, s = l[k]'(by rw [← HL.out]; exact hlt) := ⟨_, rfl⟩
        rw [← hs] at hok
        obtain ⟨ab, off, sa, scap, rfl, hbl, d0, hsm, hB⟩ := row_at HA.out hok
        have HC : Hid (∀ W, Below w.heap.size w W → W.cell? ⟨ab, off + k, none⟩ = some (.slice sa s.size scap)) := fun W hW => (hW.cell (p := ⟨ab, off + k, none⟩) hbl).trans d0
        have HK := Lib.hid hok
        have HB := Lib.hid hB
        clear hs hok d0 hsm hB
        have c0 := HC.out _ HH.out.below
        rcases Nat.lt_or_ge 65536 s.size with hbig | hsmall
        · have HD := Lib.hid (dig_long HH.out.book sa s.size scap hbig)
          have HLG := Lib.hid (HT.out.long HK.out hbig)
          have hbig' : (65536 : Int) < (s.size : Int) := by omega
          generalize s.size = z at *
          clear hbig
          unfold wrapV at HD
          generalize Value.agg _ = zz at HD
          go_wp2_with fail
          refine HD.out.mono ?_
          rintro e w3 ⟨rfl, hb3⟩
          have HH3 := Lib.hid (HH.out.later hb3)
          clear hb3 c0
          have c0 := HC.out _ HH3.out.below
          have hdl : ds.length = k := HT.out.1
          have HDL := Lib.hid hdl
          clear hdl
          go_wp2_with (at_builtin; refine wpList_append_lies _ rfl _ _ 27 rfl base 3 i0 (.int .i64 0) 1 8 Try.underlying27 HI.out HZ.out HS.out HY.out rfl (by decide) _ _ _ rfl (HH3.out.row.alloc _) ⟨w3.heap.size, 0, none⟩ 1 1 [.int .i64 (-1)] rfl rfl ?c1 ?c2 (by decide) ?c3 ?c4 ?c5 _ rfl ?_)
          case c1 => exact cell_one_new _ _ _
          case c2 => simp [Value.oneCell']
          case c3 => have := HDL.out; unfold maxLen; omega
          case c4 => have := HDL.out; omega
          case c5 => have := HH3.out.size; simp; omega
          intro g1 cap1 w4 hown hgrow hat hlt1
          have HH4 := Lib.hid (HH3.out.append hbase hown hgrow)
          clear hown hgrow hat hlt1
          go_wp2_with fail
          have HR := Lib.hid (show OwnRel w base b m l (k + 1) _ w4 from ⟨ts, _, v, HH4.out.more, HLG.out⟩)
          go_roundw
          case rel => exact ⟨k + 1, by omega, by go_num, HR.out⟩
          case measure => simp [intOf]; omega
        · have HD := Lib.hid (dig_arg HH.out.book sa scap s hsmall (by have := HH.out.few; omega) HH.out.size HB.out hbase HH.out.below)
          have HST := Lib.hid (HT.out.short HK.out HH.out.nodup)
          obtain ⟨q1, q2, q3, _, _⟩ := asked_ok s HH.out.nodup
          have HSS : Hid (s.size ≤ 65536) := hsmall
          have hsmall' : (s.size : Int) ≤ 65536 := by omega
          clear hsmall
          generalize hz : s.size = z at HC c0 HD hsmall'
          have HSZ := Lib.hid hz
          clear hz
          go_wp2_with fail
          refine HD.out.mono ?_
          rintro e w3 ⟨v3, rfl, hB3, ht3⟩
          have HH3 := Lib.hid (HH.out.asked s hbase hB3 ht3)
          have HTT := Lib.hid HT.out
          clear hB3 ht3 c0 HD
          have c0 := HC.out _ HH3.out.below
          obtain ⟨ts3, hts3⟩ : ∃ ts3, ts3 = asked ts s := ⟨_, rfl⟩
          obtain ⟨p, hp⟩ : ∃ p, p = placeOf ts s := ⟨_, rfl⟩
          rw [← hts3] at HH3 HST q1 q2 q3
          rw [← hp] at HST q2 q3 ⊢
          have Q2 := Lib.hid q2
          have Q1 := Lib.hid q1
          clear hts3 hp q1 q2
          have HMM := Lib.hid (many_any HH3.out.book)
          have HDL := Lib.hid HT.out.1
          obtain ⟨n3, hn3⟩ : ∃ n3, n3 = ts3.length := ⟨_, rfl⟩
          rw [← hn3] at HMM q3
          clear hn3
          go_wp2_with (first | (go_at_call 10; refine HMM.out.mono ?_; rintro e w' ⟨rfl, rfl⟩) | (at_builtin; refine wpList_append_lies _ rfl _ _ 27 rfl base 3 i0 (.int .i64 0) 1 8 Try.underlying27 HI.out HZ.out HS.out HY.out rfl (by decide) _ _ _ rfl (HH3.out.row.alloc _) ⟨w3.heap.size, 0, none⟩ 1 1 [.int .i64 (p : Int)] rfl rfl ?c1 ?c2 (by decide) ?c3 ?c4 ?c5 _ rfl ?_))
          case c1 => exact cell_one_new _ _ _
          case c2 => simp [Value.oneCell']
          case c3 => have := HDL.out; unfold maxLen; omega
          case c4 => have := HDL.out; omega
          case c5 => have := HH3.out.size; simp; omega
          intro g1 cap1 w4 hown hgrow hat hlt1
          have HH4 := Lib.hid (HH3.out.append hbase hown hgrow)
          clear hown hgrow hat hlt1
          have HTX := Lib.hid (text_at HH4.out.book p s Q2.out)
          go_wp2_with fail
          refine HTX.out.mono ?_
          rintro e w5 ⟨g5, cap5, rfl, hg5, hg5', hb5, hbe5⟩
          have HH5 := Lib.hid (HH4.out.later hbe5)
          clear c0 hbe5
          have c0 := HC.out _ HH5.out.below
          have hcv1 : ∀ n, (convert 32 9 (.slice (some ⟨g5, 0, none⟩) z cap5)).run Try.prog (w5.drewN n) = .ok (.string s) (w5.drewN n) := fun n => by
            rw [← HSZ.out]
            exact conv_at hb5 (fun _ => rfl)
          have hcv2 : ∀ n, (convert 32 9 (.slice sa z scap)).run Try.prog (w5.drewN n) = .ok (.string s) (w5.drewN n) := fun n => by
            rw [← HSZ.out]
            exact conv_of HB.out (fun g o _ _ hg => HH5.out.below.block g hg)
          clear hb5
          rw [HSZ.out]
          go_wp2_with fail
          go_quiet (fail)
          go_wp2_with fail
          have HH6 : Hid (Has w base b m (k + 1) ts3 (ds ++ [(p : Int)]) v3 (Value.slice (some { block := g1, off := 0 }) (ds.length + 1) cap1) (w5.drewN nq)) := HH5.out.later ⟨rfl, rfl, rfl, by simp, fun _ _ => rfl⟩
          clear HH HTT HH3 HH4 HH5 HMM HTX hcv1 hcv2 c0
          go_loopw [11] (fun i wq => ∃ j : Nat, j ≤ k ∧ i = .int .i64 j ∧ Hid (Has w base b m (k + 1) ts3 (ds ++ [(p : Int)]) v3 (Value.slice (some { block := g1, off := 0 }) (ds.length + 1) cap1) wq)) (fun i _ => k - (intOf i).toNat)
          case atStart => exact ⟨0, by omega, rfl, HH6⟩
          case round =>
            clear HH6
            obtain ⟨j, hj, rfl, HH⟩ := hrel
            by_cases hjk : j < k
            · have hjl : j < l.length := by have := HL.out; omega
              obtain ⟨t, ht⟩ : ∃ t, l[j]? = some t := ⟨_, List.getElem?_eq_getElem hjl⟩
              obtain ⟨ab', off', ta, tcap, hab, _, d0, _, hBt⟩ := row_at HA.out ht
              cases hab
              have c0 := HC.out _ HH.out.below
              have d1 : wr.cell? ⟨ab, off + j, none⟩ = some (.slice ta t.size tcap) := (HH.out.below.cell (p := ⟨ab, off + j, none⟩) hbl).trans d0
              have hcell : ∀ x, (ds ++ [(p : Int)])[j]? = some x → wr.cell? ⟨g1, j, none⟩ = some (.int .i64 x) := fun x hx => by
                have hr := HH.out.row
                simp only [List.length_append, List.length_singleton] at hr
                rw [hr.cellAt j (by have := HDL.out; omega), List.getElem?_map, hx]
                rfl
              have hcvt : ∀ n, (convert 32 9 (.slice ta t.size tcap)).run Try.prog (wr.drewN n) = .ok (.string t) (wr.drewN n) := fun n =>
                conv_of hBt (fun g o _ _ hg => HH.out.below.block g hg)
              have hcvs : ∀ n, (convert 32 9 (.slice sa z scap)).run Try.prog (wr.drewN n) = .ok (.string s) (wr.drewN n) := fun n => by
                rw [← HSZ.out]
                exact conv_of HB.out (fun g o _ _ hg => HH.out.below.block g hg)
              generalize t.size = tz at d1 hcvt
              clear d0 hBt
              have hk9 : (k : Int) ≤ 300 := by omega
              have hdk : (ds.length : Int) = (k : Int) := by rw [HDL.out]
              have HDK := Lib.hid hdk
              clear hdk
              have hjd : (j : Int) < ds.length + 1 := by have := HDL.out; omega
              rcases HST.out.2 j t (by omega) ht with ⟨_, hx⟩ | ⟨q, hx, hq⟩
              · have e1 := hcell _ hx
                clear hcell hx
                go_wp2_with fail
                go_quiet (fail)
                go_wp2_with fail
                exact ⟨⟨j + 1, by omega, by simp, HH.out.later ⟨rfl, rfl, rfl, by simp, fun _ _ => rfl⟩⟩, by simp [intOf]; omega⟩
              · have e1 := hcell _ hx
                have hiff := nodup_get Q1.out hq Q2.out
                clear hcell hx
                have hq0 : (0 : Int) ≤ (q : Int) := by omega
                by_cases hqp : q = p
                · have hts : (t.toList == s.toList) = true := by rw [str_eq]; simpa using hiff.1 hqp
                  have hqp' : ((q : Int) == (p : Int)) = true := by simp [hqp]
                  have hqp2 : (q == p) = true := by simp [hqp]
                  clear hiff hqp
                  go_wp2_with fail
                  go_quiet (fail)
                  go_wp2_with fail
                  exact ⟨⟨j + 1, by omega, by simp, HH.out.later ⟨rfl, rfl, rfl, by simp, fun _ _ => rfl⟩⟩, by simp [intOf]; omega⟩
                · have hts : (t.toList == s.toList) = false := by rw [str_eq]; simpa using fun e => hqp (hiff.2 e)
                  have hqp' : ((q : Int) == (p : Int)) = false := by simp; omega
                  have hqp2 : (q == p) = false := by simp [hqp]
                  clear hiff hqp
                  go_wp2_with fail
                  go_quiet (fail)
                  go_wp2_with fail
                  exact ⟨⟨j + 1, by omega, by simp, HH.out.later ⟨rfl, rfl, rfl, by simp, fun _ _ => rfl⟩⟩, by simp [intOf]; omega⟩
            · have HR := Lib.hid (show OwnRel w base b m l (k + 1) _ _ from ⟨ts3, _, v3, HH.out, HST.out⟩)
              go_wp2_with fail
              exact ⟨⟨k + 1, by omega, by simp, HR.out⟩, by simp [intOf]; omega⟩
      · go_wp2_with fail
        go_ret
        exact ⟨rfl, HH.out.below⟩
end Go.Proofs.Ytbipncgfbpdpjaa
