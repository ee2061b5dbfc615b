/- Book: the law of how many, the walk. -/
import Derived.Test.YtbipncgfbpdpjaaGrows
namespace Go.Proofs.Ytbipncgfbpdpjaa
open Go.RowKit Go.My

def GrowsRel (w : World) (base b m : Nat) (l : List ByteArray) (k : Nat) (n : Value) (wr : World) : Prop := ∃ ts v, Gr w base b m l k ts v wr ∧ n = .int .i64 (ts.length : Nat)

set_option maxRecDepth 100000 in
set_option maxHeartbeats 3200000 in
theorem grows_law (a : Option Addr) (l : List ByteArray) (cap : Nat) (w : World) (ha : ListAt w a 1 RowOf l) (hm : l.length ≤ maxLen) : Calls Try.prog 4 #[.slice a l.length cap] w fun e w' => e = .returned (.bool true) ∧ Below w.heap.size w w' := by
  have HA := Lib.hid ha
  have HM := Lib.hid hm
  clear ha hm
  have HG := Lib.hid (fun W (hW : Below w.heap.size w W) => great_any a l cap W w HA.out hW HM.out)
  obtain ⟨len, hlen⟩ : ∃ len, len = l.length := ⟨_, rfl⟩
  have HL := Lib.hid hlen
  rw [← hlen] at HG HM ⊢
  clear hlen
  go_enter Try.func4, Try.ntmps4
  go_wp2_with (go_at_call 6; refine (head_any _).mono ?_; rintro e w1 ⟨rfl, hb1⟩; have B1 := Lib.hid hb1; clear hb1)
  refine (new_any _).mono ?_
  rintro e w2 ⟨b, m, v, rfl, hs, hb⟩
  have hbase : w.heap.size ≤ w1.heap.size := B1.out.size
  have R2 : Hid (GrowsRel w w1.heap.size b m l 0 (.int .i64 0) w2) := ⟨[], v, ⟨hs, by simp, by simp, B1.out.trans (hb.mono B1.out.size), hb.size, by simp, fun j s h => by omega⟩, rfl⟩
  have B2 := Lib.hid (B1.out.trans (hb.mono B1.out.size))
  clear hs hb B1
  generalize w1.heap.size = base at *
  go_wp2_with fail
  refine (HG.out _ B2.out).mono ?_
  rintro e w3 ⟨g, rfl, hg, rfl⟩
  cases g with
  | true =>
    clear hg
    go_wp2_with fail
    go_ret
    exact ⟨rfl, B2.out⟩
  | false =>
    obtain ⟨hl, _⟩ := hg rfl
    rw [← HL.out] at hl
    clear hg
    go_wp2_with fail
    go_loopw [5, 6] (fun n i wr => ∃ k : Nat, k ≤ len ∧ i = .int .i64 k ∧ GrowsRel w base b m l k n wr) (fun _ i _ => len - (intOf i).toNat)
    case atStart => exact ⟨0, by omega, rfl, R2.out⟩
    case round =>
      clear R2 B2
      obtain ⟨k, hk, rfl, ts, v, hh, rfl⟩ := hrel
      have HH := Lib.hid hh
      have hfew : (ts.length : Int) ≤ k := by have := hh.few; omega
      clear hh
      by_cases hlt : k < len
      · have hok : l[k]? = some (l[k]'(by rw [← HL.out]; exact hlt)) := List.getElem?_eq_getElem _
        obtain ⟨s, hs⟩ : ∃ s, s = l[k]'(by rw [← HL.out]; exact hlt) := ⟨_, rfl⟩
        rw [← hs] at hok
        obtain ⟨ab, off, sa, scap, rfl, hbl, d0, hsm, hB⟩ := row_at HA.out hok
        have HC : Hid (∀ W, Below w.heap.size w W → W.cell? ⟨ab, off + k, none⟩ = some (.slice sa s.size scap)) := fun W hW => (hW.cell (p := ⟨ab, off + k, none⟩) hbl).trans d0
        have HK := Lib.hid hok
        have HB := Lib.hid hB
        clear hs hok d0 hsm hB
        have c0 := HC.out _ HH.out.below
        obtain ⟨z, hz⟩ : ∃ z, z = s.size := ⟨_, rfl⟩
        rw [← hz] at c0 HC
        have HSZ := Lib.hid hz
        obtain ⟨f0, hf0⟩ : ∃ f0, decide ((z : Int) ≤ 65536) = f0 := ⟨_, rfl⟩
        have HF0 : Hid (freshB l s 0 = f0) := by show _ = _; rw [fresh_zero, ← hf0, ← hz]; simp; omega
        clear hz
        obtain ⟨n, hn⟩ : ∃ n, n = ts.length := ⟨_, rfl⟩
        rw [← hn] at hfew ⊢
        have HN := Lib.hid hn
        clear hn
        go_wp2_with fail
        clear hf0
        go_loopw [7, 8] (fun f i wr => ∃ j : Nat, j ≤ k ∧ i = .int .i64 j ∧ f = .bool (freshB l s j) ∧ Hid (Gr w base b m l k ts v wr)) (fun _ i _ => k - (intOf i).toNat)
        case atStart => exact ⟨0, by omega, rfl, by rw [HF0.out], HH⟩
        case round =>
          clear HH
          obtain ⟨j, hj, rfl, rfl, HH⟩ := hrel
          have c0 := HC.out _ HH.out.below
          by_cases hjk : j < k
          · have hjl : j < l.length := by have := HL.out; omega
            obtain ⟨t, ht⟩ : ∃ t, l[j]? = some t := ⟨_, List.getElem?_eq_getElem hjl⟩
            have HS := Lib.hid (fresh_succ s ht)
            cases hfj : freshB l s j with
            | false =>
              rw [hfj] at HS
              clear hfj ht
              go_wp2_with fail
              go_quiet (fail)
              go_wp2_with fail
              exact ⟨⟨j + 1, by omega, by simp, by rw [HS.out]; rfl, HH.out.later ⟨rfl, rfl, rfl, by simp, fun _ _ => rfl⟩⟩, by simp [intOf]; omega⟩
            | true =>
              rw [hfj] at HS
              obtain ⟨ab', off', ta, tcap, hab, _, d0, _, hBt⟩ := row_at HA.out ht
              cases hab
              have d1 : wr.cell? ⟨ab, off + j, none⟩ = some (.slice ta t.size tcap) := (HH.out.below.cell (p := ⟨ab, off + j, none⟩) hbl).trans d0
              have hcvt : ∀ n, (convert 32 9 (.slice ta t.size tcap)).run Try.prog (wr.drewN n) = .ok (.string t) (wr.drewN n) := fun n =>
                conv_of hBt (fun g o _ _ hg => HH.out.below.block g hg)
              have hcvs : ∀ n, (convert 32 9 (.slice sa z scap)).run Try.prog (wr.drewN n) = .ok (.string s) (wr.drewN n) := fun n => by
                rw [HSZ.out]
                exact conv_of HB.out (fun g o _ _ hg => HH.out.below.block g hg)
              generalize t.size = tz at d1 hcvt
              clear d0 hBt hfj ht
              by_cases hts : t = s
              · have h1 : (t.toList == s.toList) = true := by rw [str_eq]; simpa using hts
                have h2 : (t.toList != s.toList) = false := by simp [bne, h1]
                have HE : Hid (freshB l s (j + 1) = false) := by show _ = _; rw [HS.out]; simp [hts]
                clear hts
                go_wp2_with fail
                go_quiet (fail)
                go_wp2_with fail
                exact ⟨⟨j + 1, by omega, by simp, by rw [HE.out], HH.out.later ⟨rfl, rfl, rfl, by simp, fun _ _ => rfl⟩⟩, by simp [intOf]; omega⟩
              · have h1 : (t.toList == s.toList) = false := by rw [str_eq]; simpa using hts
                have h2 : (t.toList != s.toList) = true := by simp [bne, h1]
                have HE : Hid (freshB l s (j + 1) = true) := by show _ = _; rw [HS.out]; simp [hts]
                clear hts
                go_wp2_with fail
                go_quiet (fail)
                go_wp2_with fail
                exact ⟨⟨j + 1, by omega, by simp, by rw [HE.out], HH.out.later ⟨rfl, rfl, rfl, by simp, fun _ _ => rfl⟩⟩, by simp [intOf]; omega⟩
          · obtain rfl : j = k := by omega
            clear hjk hj HF0
            have hcz : ∀ n, (convert 32 9 (.slice sa z scap)).run Try.prog (wr.drewN n) = .ok (.string s) (wr.drewN n) := fun n => by
              rw [HSZ.out]
              exact conv_of HB.out (fun g o _ _ hg => HH.out.below.block g hg)
            clear hcz
            rcases Nat.lt_or_ge 65536 s.size with hbig | hsmall
            · have hfr : freshB l s j = false := by
                have := fresh_is HH.out s
                cases hf : freshB l s j with
                | false => rfl
                | true => have := (this.1 hf).1; omega
              rw [hfr]
              clear hfr
              have HD := Lib.hid (dig_long HH.out.book sa z scap (by rw [HSZ.out]; exact hbig))
              have HT := Lib.hid (fun W hW => text_no (HH.out.book.below hW) (-1) (.inl (by decide)) (w := W))
              have HMM := Lib.hid (fun W hW => many_any (HH.out.book.below hW) (w := W))
              rw [← HN.out] at HMM
              have HL1 := Lib.hid (HH.out.long HK.out hbig)
              unfold wrapV at HD HT
              generalize Value.agg _ = zz at HD
              generalize Value.agg _ = zz2 at HT
              clear hbig
              go_wp2_with fail
              refine HD.out.mono ?_
              rintro e w4 ⟨rfl, hb4⟩
              have B4 := Lib.hid hb4
              clear hb4 c0
              go_wp2_with fail
              refine (HT.out _ B4.out).mono ?_
              rintro e w5 ⟨rfl, hb5⟩
              have B5 := Lib.hid (B4.out.trans (hb5.mono B4.out.size))
              clear hb5
              go_wp2_with fail
              refine wp_loop_rounds 1 ?_
              rw [rounds_succ]
              go_wp2_with fail
              refine (HT.out _ B5.out).mono ?_
              rintro e w6 ⟨rfl, hb6⟩
              have B6 := Lib.hid (B5.out.trans (hb6.mono B5.out.size))
              clear hb6
              go_wp2_with fail
              have HQ : Hid (∀ n', Calls Try.prog 10 #[.pointer (some ⟨b, 0, none⟩)] (w6.drewN n') fun e w' => e = .returned (.int .i64 (n : Int)) ∧ w' = w6.drewN n') := fun n' =>
                (HMM.out _ (B6.out.trans ((belowN w6 n').mono B6.out.size))).mono fun _ _ h => ⟨h.1, h.2.symm⟩
              go_quiet ((go_at_call 10; exact Calls.quiet_of_same (HQ.out _)))
              have HR := Lib.hid (show GrowsRel w base b m l (j + 1) (.int .i64 (n : Int)) (w6.drewN nq) from ⟨ts, v, HL1.out.later (B6.out.trans ((belowN w6 nq).mono B6.out.size)), by rw [HN.out]⟩)
              go_wp2_with fail
              go_roundw
              case rel => exact ⟨j + 1, by omega, by go_num, HR.out⟩
              case measure => simp [intOf]; omega
            · have HD := Lib.hid (dig_arg HH.out.book sa scap s hsmall (by have := HH.out.few; omega) HH.out.size HB.out hbase HH.out.below)
              rw [← HSZ.out] at HD
              obtain ⟨q1, q2, q3, _, q5⟩ := asked_ok s HH.out.nodup
              have hfl := fresh_len HH.out s hsmall
              have HGR : Hid (∀ W v', BookAt W base b m v' (asked ts s) → Turned wr base b m v v' W → Gr w base b m l (j + 1) (asked ts s) v' W) := fun W v' h1 h2 => HH.out.asked HK.out hbase h1 h2
              obtain ⟨p, hp⟩ : ∃ p, p = placeOf ts s := ⟨_, rfl⟩
              unfold DigLeft at HD
              rw [← hp] at HD q2 q3
              obtain ⟨ts3, hts3⟩ : ∃ ts3, ts3 = asked ts s := ⟨_, rfl⟩
              rw [← hts3] at HD q2 q3 q5 HGR hfl
              rw [← HN.out] at hfl
              have Q2 := Lib.hid q2
              have hz64 : (z : Int) ≤ 65536 := by have := HSZ.out; omega
              clear hts3 hp q1 q2 hsmall
              have HMM : Hid (∀ W v', BookAt W base b m v' ts3 → Calls Try.prog 10 #[.pointer (some ⟨b, 0, none⟩)] W fun e w' => e = .returned (.int .i64 (ts3.length : Int)) ∧ w' = W) := fun W v' h1 => (many_any h1).mono fun _ _ h => ⟨h.1, h.2.symm⟩
              have HTX : Hid (∀ W v', BookAt W base b m v' ts3 → Calls Try.prog 11 #[.pointer (some ⟨b, 0, none⟩), .int .i64 (p : Int)] W (TextLeft W s)) := fun W v' h1 => text_at h1 p s Q2.out
              have hp0 : (0 : Int) ≤ (p : Int) := by omega
              have hp9 : (p : Int) ≤ 300 := by have := HH.out.few; omega
              have hts : (s.toList == s.toList) = true := by simp
              have hts2 : (s.toList != s.toList) = false := by simp
              clear q3 q5
              cases hfr : freshB l s j with
              | true =>
                rw [hfr] at hfl
                have e3 : (ts3.length : Int) = (n : Int) + 1 := by rw [hfl]; simp
                have E3 := Lib.hid e3
                rw [e3] at HMM
                clear e3 hfl hfr
                go_wp2_with fail
                refine HD.out.mono ?_
                rintro e w4 ⟨v4, rfl, hB4, ht4⟩
                have H4 := Lib.hid (HGR.out _ _ hB4 ht4)
                clear hB4 ht4 c0
                go_wp2_with fail
                refine (HTX.out _ _ H4.out.book).mono ?_
                rintro e w5 ⟨g5, cap5, rfl, hg5, hg5', hb5, hbe5⟩
                rw [← HSZ.out]
                rw [← HSZ.out] at hb5
                have HF5 := Lib.hid hb5.2
                have HC5 := Lib.hid hb5.1
                have HB5 := Lib.hid hbe5
                clear hb5 hbe5
                go_wp2_with fail
                go_loopw [13] (fun i wq => ∃ q : Nat, q ≤ z ∧ i = .int .i64 q ∧ Hid (Wrote [g5] w5 wq ∧ (∀ i, i < z → ∃ x : Int, wq.cell? ⟨g5, i, none⟩ = some (.int .u8 x)) ∧ ∀ i, i < z → wq.frozen? ⟨g5, i, none⟩ = false)) (fun i _ => z - (intOf i).toNat)
                case atStart => exact ⟨0, by omega, rfl, Wrote.refl _ _, fun i hi => ⟨_, by have := HC5.out i (by have := HSZ.out; omega); rwa [Nat.zero_add] at this⟩, HF5.out⟩
                case round =>
                  obtain ⟨q, hq, rfl, HW⟩ := hrel
                  by_cases hqz : q < z
                  · obtain ⟨x, hx⟩ := HW.out.2.1 q hqz
                    have hf := HW.out.2.2 q hqz
                    have hqi : (q : Int) < (z : Int) := by omega
                    have hq0 : (0 : Int) ≤ (q : Int) := by omega
                    have HX := Lib.hid hx
                    go_wp2_with fail
                    refine ⟨⟨q + 1, by omega, by simp, HW.out.1.setCell (.inl (by simp)) _, fun i hi => ?_, fun i hi => by rw [World.frozen?_setCell]; exact HW.out.2.2 i hi⟩, by simp [intOf]; omega⟩
                    by_cases e : i = q
                    · subst e
                      exact ⟨_, World.cell?_setCell_same _ _ _ HX.out⟩
                    · obtain ⟨y, hy⟩ := HW.out.2.1 i hi
                      refine ⟨y, ?_⟩
                      rw [World.cell?_setCell_other _ _ _ _ (fun e' => e (by injection e' with _ e'; exact e'.symm))]
                      exact hy
                  · have H6 := Lib.hid (H4.out.fresh rfl HB5.out HW.out.1 (by simpa using hg5))
                    clear HW HF5 HC5 HB5 H4
                    go_wp2_with fail
                    refine (HTX.out _ _ H6.out.book).mono ?_
                    rintro e w7 ⟨g7, cap7, rfl, hg7, hg7', hb7, hbe7⟩
                    rw [← HSZ.out]
                    have H7 := Lib.hid (H6.out.later hbe7)
                    have hcv1 : ∀ n, (convert 32 9 (.slice (some ⟨g7, 0, none⟩) z cap7)).run Try.prog (w7.drewN n) = .ok (.string s) (w7.drewN n) := fun n => by
                      rw [HSZ.out]
                      exact conv_at hb7.1 (fun _ => rfl)
                    have hcv2 : ∀ n, (convert 32 9 (.slice sa z scap)).run Try.prog (w7.drewN n) = .ok (.string s) (w7.drewN n) := fun n => by
                      rw [HSZ.out]
                      exact conv_of HB.out (fun g o _ _ hg => H7.out.below.block g hg)
                    have c7 := HC.out _ H7.out.below
                    have HQ : Hid (∀ n', Calls Try.prog 10 #[.pointer (some ⟨b, 0, none⟩)] (w7.drewN n') fun e w' => e = .returned (.int .i64 ((n : Int) + 1)) ∧ w' = w7.drewN n') := fun n' => HMM.out _ _ (H7.out.book.below (belowN w7 n'))
                    clear hb7 hbe7
                    have hnn : ((n : Int) + 1 != (n : Int) + 1) = false := by simp
                    go_wp2_with fail
                    go_quiet ((go_at_call 10; exact Calls.quiet_of_same (HQ.out _)))
                    have HR := Lib.hid (show GrowsRel w base b m l (j + 1) (.int .i64 ((n : Int) + 1)) (w7.drewN nq) from ⟨ts3, v4, H7.out.later (belowN w7 nq), by rw [E3.out]⟩)
                    go_wp2_with fail
                    exact ⟨⟨j + 1, by omega, by simp, HR.out⟩, by simp [intOf]; omega⟩
              | false =>
                rw [hfr] at hfl
                have e3 : (ts3.length : Int) = (n : Int) := by rw [hfl]; simp
                have E3 := Lib.hid e3
                rw [e3] at HMM
                clear e3 hfl hfr
                go_wp2_with fail
                refine HD.out.mono ?_
                rintro e w4 ⟨v4, rfl, hB4, ht4⟩
                have H4 := Lib.hid (HGR.out _ _ hB4 ht4)
                clear hB4 ht4 c0
                go_wp2_with fail
                refine (HTX.out _ _ H4.out.book).mono ?_
                rintro e w5 ⟨g5, cap5, rfl, hg5, hg5', hb5, hbe5⟩
                rw [← HSZ.out]
                rw [← HSZ.out] at hb5
                have HF5 := Lib.hid hb5.2
                have HC5 := Lib.hid hb5.1
                have HB5 := Lib.hid hbe5
                clear hb5 hbe5
                go_wp2_with fail
                go_loopw [13] (fun i wq => ∃ q : Nat, q ≤ z ∧ i = .int .i64 q ∧ Hid (Wrote [g5] w5 wq ∧ (∀ i, i < z → ∃ x : Int, wq.cell? ⟨g5, i, none⟩ = some (.int .u8 x)) ∧ ∀ i, i < z → wq.frozen? ⟨g5, i, none⟩ = false)) (fun i _ => z - (intOf i).toNat)
                case atStart => exact ⟨0, by omega, rfl, Wrote.refl _ _, fun i hi => ⟨_, by have := HC5.out i (by have := HSZ.out; omega); rwa [Nat.zero_add] at this⟩, HF5.out⟩
                case round =>
                  obtain ⟨q, hq, rfl, HW⟩ := hrel
                  by_cases hqz : q < z
                  · obtain ⟨x, hx⟩ := HW.out.2.1 q hqz
                    have hf := HW.out.2.2 q hqz
                    have hqi : (q : Int) < (z : Int) := by omega
                    have hq0 : (0 : Int) ≤ (q : Int) := by omega
                    have HX := Lib.hid hx
                    go_wp2_with fail
                    refine ⟨⟨q + 1, by omega, by simp, HW.out.1.setCell (.inl (by simp)) _, fun i hi => ?_, fun i hi => by rw [World.frozen?_setCell]; exact HW.out.2.2 i hi⟩, by simp [intOf]; omega⟩
                    by_cases e : i = q
                    · subst e
                      exact ⟨_, World.cell?_setCell_same _ _ _ HX.out⟩
                    · obtain ⟨y, hy⟩ := HW.out.2.1 i hi
                      refine ⟨y, ?_⟩
                      rw [World.cell?_setCell_other _ _ _ _ (fun e' => e (by injection e' with _ e'; exact e'.symm))]
                      exact hy
                  · have H6 := Lib.hid (H4.out.fresh rfl HB5.out HW.out.1 (by simpa using hg5))
                    clear HW HF5 HC5 HB5 H4
                    go_wp2_with fail
                    refine (HTX.out _ _ H6.out.book).mono ?_
                    rintro e w7 ⟨g7, cap7, rfl, hg7, hg7', hb7, hbe7⟩
                    rw [← HSZ.out]
                    have H7 := Lib.hid (H6.out.later hbe7)
                    have hcv1 : ∀ n, (convert 32 9 (.slice (some ⟨g7, 0, none⟩) z cap7)).run Try.prog (w7.drewN n) = .ok (.string s) (w7.drewN n) := fun n => by
                      rw [HSZ.out]
                      exact conv_at hb7.1 (fun _ => rfl)
                    have hcv2 : ∀ n, (convert 32 9 (.slice sa z scap)).run Try.prog (w7.drewN n) = .ok (.string s) (w7.drewN n) := fun n => by
                      rw [HSZ.out]
                      exact conv_of HB.out (fun g o _ _ hg => H7.out.below.block g hg)
                    have c7 := HC.out _ H7.out.below
                    have HQ : Hid (∀ n', Calls Try.prog 10 #[.pointer (some ⟨b, 0, none⟩)] (w7.drewN n') fun e w' => e = .returned (.int .i64 ((n : Int))) ∧ w' = w7.drewN n') := fun n' => HMM.out _ _ (H7.out.book.below (belowN w7 n'))
                    clear hb7 hbe7
                    have hnn : ((n : Int) != (n : Int)) = false := by simp
                    go_wp2_with fail
                    go_quiet ((go_at_call 10; exact Calls.quiet_of_same (HQ.out _)))
                    have HR := Lib.hid (show GrowsRel w base b m l (j + 1) (.int .i64 ((n : Int))) (w7.drewN nq) from ⟨ts3, v4, H7.out.later (belowN w7 nq), by rw [E3.out]⟩)
                    go_wp2_with fail
                    exact ⟨⟨j + 1, by omega, by simp, HR.out⟩, by simp [intOf]; omega⟩
      · have hb := Lib.hid HH.out.below
        go_wp2_with fail
        go_ret
        exact ⟨rfl, hb.out⟩
end Go.Proofs.Ytbipncgfbpdpjaa
