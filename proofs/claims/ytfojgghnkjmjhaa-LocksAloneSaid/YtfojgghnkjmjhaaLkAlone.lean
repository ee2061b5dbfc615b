/- Locks: LocksAlone. -/
import Derived.Test.YtfojgghnkjmjhaaLkSt
namespace Go.Proofs.Ytfojgghnkjmjhaa.Locks
open Go.RowKit Go.My

set_option maxRecDepth 100000 in
set_option maxHeartbeats 12800000 in
theorem alone_3 (a : Option Addr) (cap : Nat) (l : List LOp) (who : Int) (ka : Option Addr) (kcap : Nat) (keys : List ByteArray) (other : Int) (w : World) (ho : OpsAt w a l) (hm : l.length ≤ maxLen) (hk : StrsAt w ka keys) (hkm : keys.length ≤ maxLen) :
    Calls Try.prog 3 #[.slice a l.length cap, .int .i64 who, .slice ka keys.length kcap, .int .i64 other] w fun e w' => e = .returned (.bool true) ∧ Below w.heap.size w w' := by
  have HH := Lib.hid (head_any w)
  have HO := Lib.hid ho
  have HKS := Lib.hid hk
  have HGR : Hid (∀ W, Below w.heap.size w W → Calls Try.prog 8 #[.slice a l.length cap] W (GreatLeft W l)) := fun W hW => great_any a l cap W w ho hW hm
  obtain ⟨n, hn⟩ : ∃ n, n = l.length := ⟨_, rfl⟩
  obtain ⟨kn, hkn⟩ : ∃ n, n = keys.length := ⟨_, rfl⟩
  have HN := Lib.hid hn
  have HKN := Lib.hid hkn
  rw [← hn] at HGR hm ⊢
  rw [← hkn] at hkm ⊢
  unfold maxLen at hm hkm
  clear ho hk hn hkn
  go_enter Try.func3, Try.ntmps3
  go_wp2_with fail
  refine HH.out.mono ?_
  rintro e w1 ⟨rfl, hb⟩
  have HB1 := Lib.hid hb
  clear hb
  go_wp2_with fail
  refine (new_any _).mono ?_
  intro e w2 he
  obtain ⟨b, m, rfl, hst⟩ := st_new HB1.out he
  have HST := Lib.hid hst
  clear he hst
  go_wp2_with fail
  refine (HGR.out _ HST.out.below).mono ?_
  rintro e w2' ⟨gr, rfl, hgr, rfl⟩
  cases gr with
  | true =>
    clear hgr
    go_wp2_with fail
    go_ret
    exact ⟨rfl, HST.out.below⟩
  | false =>
    obtain ⟨hl, hsz⟩ := hgr rfl
    have HSZ := Lib.hid hsz
    rw [← HN.out] at hl
    clear hgr hsz
    by_cases hk300 : (300 : Int) < (kn : Int)
    · go_wp2_with fail
      go_ret
      exact ⟨rfl, HST.out.below⟩
    have P1 : Hid (∃ L, LkSt w b m L w2) := ⟨_, HST.out⟩
    clear HST
    go_wp2_with fail
    go_loopw [11] (fun i wr => ∃ j : Nat, j ≤ n ∧ i = .int .i64 j ∧ Hid (∃ L, LkSt w b m L wr)) (fun i _ => n - (intOf i).toNat)
    case atStart => exact ⟨0, by omega, rfl, P1⟩
    case round =>
      clear P1
      obtain ⟨j, hj, rfl, L, hst⟩ := hrel
      have HST := Lib.hid hst
      clear hst
      by_cases hlt : j < n
      · obtain ⟨x, hx⟩ : ∃ x, l[j]? = some x := ⟨_, List.getElem?_eq_getElem (by rw [← HN.out]; exact hlt)⟩
        obtain ⟨g, o, xa, xcap, rfl, hc, hxs, _⟩ := HO.out.get hx
        have HXS := Lib.hid hxs
        have HXL : Hid (x.keys.length ≤ 10000) := by have := HSZ.out x (List.mem_of_getElem? hx); show _ ≤ _; omega
        obtain ⟨d0, d1, d2⟩ := hc _ HST.out.below
        have HD := Lib.hid (HST.out.drewN 1)
        have HS0 := HST
        have hj0 : (0 : Int) ≤ (j : Int) := by omega
        have hj1 : (j : Int) < (n : Int) := by omega
        clear hx hc hxs
        obtain ⟨tb, htb⟩ : ∃ tb, (bits BinOp.and IntKind.i64 x.what 1 == 0) = tb := ⟨_, rfl⟩
        cases tb with
        | true =>
          go_wp2_with fail
          refine wp_region_tail 11 (by kernel_rfl) (by kernel_rfl) ?_
          simp only [List.take_succ_cons, List.take_zero, List.drop_succ_cons, List.drop_zero]
          repeat still_step
          refine wpStill_nil ?_
          go_wp2_with fail
          refine (st_lock HD.out x.who xa xcap x.keys HXS.out HXL.out).mono ?_
          rintro e w3 ⟨rfl, hst⟩
          have HNX : Hid (∃ L, LkSt w b m L w3) := ⟨_, hst⟩
          clear hst d0 d1 d2 htb
          go_wp2_with fail
          exact ⟨⟨j + 1, by omega, by simp, HNX⟩, by simp [intOf]; omega⟩
        | false =>
          go_wp2_with fail
          refine (st_unlock HS0.out x.who).mono ?_
          rintro e w3 ⟨rfl, hst⟩
          have HNX : Hid (∃ L, LkSt w b m L w3) := ⟨_, hst⟩
          clear hst d0 d1 d2 htb
          go_wp2_with fail
          exact ⟨⟨j + 1, by omega, by simp, HNX⟩, by simp [intOf]; omega⟩
      · obtain rfl : j = n := by omega
        have HKL : Hid (keys.length ≤ 10000) := by have := HKN.out; show _ ≤ _; omega
        have HLO := Lib.hid (keysOf_le HST.out other)
        have HLW := Lib.hid (keysOf_le HST.out who)
        have HFN := Lib.hid HST.out.fine
        have HK1 := Lib.hid (st_keys HST.out other)
        clear HST
        obtain ⟨kw, hkw⟩ : ∃ z, z = keysOf L other := ⟨_, rfl⟩
        obtain ⟨ko, hko⟩ : ∃ z, z = keysOf L who := ⟨_, rfl⟩
        have HKW := Lib.hid hkw
        have HKO := Lib.hid hko
        obtain ⟨kwn, hkwn⟩ : ∃ z, z = kw.length := ⟨_, rfl⟩
        obtain ⟨kon, hkon⟩ : ∃ z, z = ko.length := ⟨_, rfl⟩
        have HKWN := Lib.hid hkwn
        have HKON := Lib.hid hkon
        rw [← hkw, ← hkwn] at HK1
        rw [← hkw] at HLO
        rw [← hko] at HLW
        have hkwi : (kwn : Int) ≤ 10000 := by have := HLO.out; omega
        have hkoi : (kon : Int) ≤ 10000 := by have := HLW.out; omega
        clear hkw hko hkwn hkon
        go_wp2_with fail
        refine HK1.out.mono ?_
        rintro e w3 ⟨aw, cw, rfl, ⟨hrw, _⟩, hst, _⟩
        have HRW3 := Lib.hid hrw
        have HS3 := Lib.hid hst
        have HK2 := Lib.hid (st_keys hst who)
        rw [← HKO.out, ← HKON.out] at HK2
        clear hrw hst HK1
        go_wp2_with fail
        refine HK2.out.mono ?_
        rintro e w4 ⟨ao, co, rfl, ⟨hro, _⟩, hst, hb34⟩
        have HRO4 := Lib.hid hro
        have HRW4 := Lib.hid (LiesAt.below HRW3.out hb34)
        have HL := Lib.hid (st_lock2 hst who ka kcap keys HKS.out HKL.out)
        rw [← HKN.out] at HL
        have HS4 := Lib.hid hst
        clear hro hb34 hst HK2
        cases hE : lockE L who keys with
        | none =>
          have HE := Lib.hid hE
          rw [hE] at HL
          simp only [errV] at HL
          obtain ⟨L1, hL1⟩ : ∃ z, z = lockL L who keys := ⟨_, rfl⟩
          have HKE1 : Hid (other ≠ who → keysOf L1 other = kw) := fun h => by rw [hL1, keysOf_lock_other HFN.out h, HKW.out]
          have HAG : Hid (∀ x ∈ keys, aget L1 x = some who) := fun x hx => by rw [hL1, aget_lock hE, if_pos (hasK_iff.2 hx)]
          rw [← hL1] at HL
          clear hE hL1
          go_wp2_with fail
          refine HL.out.mono ?_
          rintro e w5 ⟨rfl, hst, hw⟩
          have HS5 := Lib.hid hst
          have HRW5 := Lib.hid (strs_keep HS4.out HRW4.out hw)
          clear hst hw HL
          go_wp2_with fail
          go_loop [15] (fun i => ∃ q : Nat, q ≤ kn ∧ i = .int .i64 q) (fun i => kn - (intOf i).toNat)
          case atStart => exact ⟨0, by omega, rfl⟩
          case round =>
            obtain ⟨q, hq, rfl⟩ := hrel
            by_cases hlq : q < kn
            · obtain ⟨x, hx⟩ : ∃ x, keys[q]? = some x := ⟨_, List.getElem?_eq_getElem (by rw [← HKN.out]; exact hlq)⟩
              obtain ⟨g, o, rfl, hg, d0⟩ := StrsAt.cell (LiesAt.below HKS.out HS5.out.below) hx
              have HHO := Lib.hid (holder_any b m L1 x w5 HS5.out.at_)
              have hi : heldI L1 x = who ∧ heldB L1 x = true := by unfold heldI heldB; rw [HAG.out x (List.mem_of_getElem? hx)]; exact ⟨rfl, rfl⟩
              rw [hi.1, hi.2] at HHO
              have hww : (who != who) = false := by simp
              clear hi
              have hq0 : (0 : Int) ≤ (q : Int) := by omega
              have hq1 : (q : Int) < (kn : Int) := by omega
              clear hx hg
              go_wp2_with fail
              refine HHO.out.mono ?_
              rintro e w5' ⟨rfl, rfl⟩
              go_wp2_with fail
              exact ⟨⟨q + 1, by omega, by simp⟩, by simp [intOf]; omega⟩
            · obtain rfl : q = kn := by omega
              by_cases hoth : other = who
              · obtain rfl : other = who := hoth
                have hne : (other != other) = false := by simp
                have heq : (other == other) = true := by simp
                have HUN := Lib.hid (st_unlock2 HS5.out other)
                go_wp2_with fail
                refine HUN.out.mono ?_
                rintro e w7 ⟨rfl, hst, _⟩
                have HS7 := Lib.hid hst
                have HK7 := Lib.hid (st_keys hst other)
                rw [keysOf_unlock_own HS5.out.fine] at HK7
                clear hst HUN
                go_wp2_with fail
                refine HK7.out.mono ?_
                rintro e w8 ⟨a8, c8, rfl, _, hst, _⟩
                have HMY := Lib.hid (many_any b m _ w8 hst.at_)
                have HB8 := Lib.hid hst.below
                obtain ⟨m8, hm8⟩ : ∃ z, z = (unlockL L1 other).length := ⟨_, rfl⟩
                have hm8i : (m8 : Int) ≤ 128 := by have := hst.fine.small; rw [← hm8] at this; omega
                rw [← hm8] at HMY
                clear hst HK7 hm8
                go_wp2_with fail
                refine HMY.out.mono ?_
                rintro e w8' ⟨rfl, rfl⟩
                go_wp2_with fail
                go_ret
                exact ⟨rfl, HB8.out⟩
              · have hne : (other != who) = true := by simpa using hoth
                have heq : (other == who) = false := by simpa using hoth
                have HOTH := Lib.hid hoth
                clear hoth
                have HKQ := Lib.hid (st_keys HS5.out other)
                rw [HKE1.out HOTH.out, ← HKWN.out] at HKQ
                go_wp2_with fail
                refine HKQ.out.mono ?_
                rintro e wa ⟨aa, ca, rfl, ⟨hra, _⟩, hst, hb⟩
                have HSA := Lib.hid hst
                have HRWA := Lib.hid (LiesAt.below HRW5.out hb)
                have HSK := Lib.hid (samekeys_any aa aw kwn ca cw kw wa hra HRWA.out HKWN.out hkwi)
                clear hra hst hb HKQ
                go_wp2_with fail
                refine HSK.out.mono ?_
                rintro e wb ⟨rfl, hb⟩
                have HSB := Lib.hid (HSA.out.keep hb)
                have HRWB := Lib.hid (LiesAt.below HRWA.out hb)
                clear hb HSK
                have HUN := Lib.hid (st_unlock2 HSB.out who)
                go_wp2_with fail
                refine HUN.out.mono ?_
                rintro e w7 ⟨rfl, hst, hw⟩
                have HS7 := Lib.hid hst
                have HRW7 := Lib.hid (strs_keep HSB.out HRWB.out hw)
                have HK7 := Lib.hid (st_keys hst who)
                rw [keysOf_unlock_own HSB.out.fine] at HK7
                clear hst hw HUN
                go_wp2_with fail
                refine HK7.out.mono ?_
                rintro e w8 ⟨a8, c8, rfl, _, hst, hb⟩
                have HS8 := Lib.hid hst
                have HRW8 := Lib.hid (LiesAt.below HRW7.out hb)
                have HK9 := Lib.hid (st_keys hst other)
                rw [keysOf_unlock_other HSB.out.fine HOTH.out, HKE1.out HOTH.out, ← HKWN.out] at HK9
                clear hst hb HK7
                go_wp2_with fail
                refine HK9.out.mono ?_
                rintro e w9 ⟨a9, c9, rfl, ⟨hr9, _⟩, hst, hb⟩
                have HS9 := Lib.hid hst
                have HSK := Lib.hid (samekeys_any a9 aw kwn c9 cw kw w9 hr9 (LiesAt.below HRW8.out hb) HKWN.out hkwi)
                clear hst hb hr9 HK9
                go_wp2_with fail
                refine HSK.out.mono ?_
                rintro e w10 ⟨rfl, hb⟩
                have HS10 := Lib.hid (HS9.out.keep hb)
                have HMY := Lib.hid (many_any b m _ w10 HS10.out.at_)
                have HB10 := Lib.hid HS10.out.below
                obtain ⟨m8, hm8⟩ : ∃ z, z = (unlockL L1 who).length := ⟨_, rfl⟩
                have hm8i : (m8 : Int) ≤ 128 := by have := HS10.out.fine.small; rw [← hm8] at this; omega
                rw [← hm8] at HMY
                clear hb HSK hm8
                go_wp2_with fail
                refine HMY.out.mono ?_
                rintro e w10' ⟨rfl, rfl⟩
                go_wp2_with fail
                go_ret
                exact ⟨rfl, HB10.out⟩
        | some p =>
          obtain ⟨en, ea⟩ := p
          have HE := Lib.hid hE
          rw [hE] at HL
          simp only [errV, wrapV] at HL
          obtain ⟨L1, hL1⟩ : ∃ z, z = lockL L who keys := ⟨_, rfl⟩
          have HKE1 : Hid (other ≠ who → keysOf L1 other = kw) := fun h => by rw [hL1, keysOf_lock_other HFN.out h, HKW.out]
          have HL1O : Hid (keysOf L1 who = ko) := by show _ = _; rw [hL1, HKO.out]; unfold lockL; rw [if_neg (by rw [hE]; simp)]
          rw [← hL1] at HL
          obtain ⟨ev, hev⟩ : ∃ z : Value, z = .agg #[.string lockW, .int .i64 ea, .iface 46 (.int .i64 en)] := ⟨_, rfl⟩
          rw [← hev] at HL
          clear hE hL1 hev
          go_wp2_with fail
          refine HL.out.mono ?_
          rintro e w5 ⟨rfl, hst, hw⟩
          have HS5 := Lib.hid hst
          have HRW5 := Lib.hid (strs_keep HS4.out HRW4.out hw)
          have HRO5 := Lib.hid (strs_keep HS4.out HRO4.out hw)
          clear hst hw HL
          go_wp2_with fail
          go_loop [15] (fun i => ∃ q : Nat, q ≤ kn ∧ i = .int .i64 q) (fun i => kn - (intOf i).toNat)
          case atStart => exact ⟨0, by omega, rfl⟩
          case round =>
            obtain ⟨q, hq, rfl⟩ := hrel
            by_cases hlq : q < kn
            · obtain ⟨x, hx⟩ : ∃ x, keys[q]? = some x := ⟨_, List.getElem?_eq_getElem (by rw [← HKN.out]; exact hlq)⟩
              obtain ⟨g, o, rfl, hg, d0⟩ := StrsAt.cell (LiesAt.below HKS.out HS5.out.below) hx
              have HHO := Lib.hid (holder_any b m L1 x w5 HS5.out.at_)
              obtain ⟨hi, hI⟩ : ∃ z, z = heldI L1 x := ⟨_, rfl⟩
              obtain ⟨hb, hB⟩ : ∃ z, z = heldB L1 x := ⟨_, rfl⟩
              rw [← hI, ← hB] at HHO
              clear hI hB
              have hq0 : (0 : Int) ≤ (q : Int) := by omega
              have hq1 : (q : Int) < (kn : Int) := by omega
              clear hx hg
              go_wp2_with fail
              refine HHO.out.mono ?_
              rintro e w5' ⟨rfl, rfl⟩
              go_wp2_with fail
              exact ⟨⟨q + 1, by omega, by simp⟩, by simp [intOf]; omega⟩
            · obtain rfl : q = kn := by omega
              by_cases hoth : other = who
              · obtain rfl : other = who := hoth
                have hne : (other != other) = false := by simp
                have heq : (other == other) = true := by simp
                have HKQ0 := Lib.hid (st_keys HS5.out other)
                rw [HL1O.out, ← HKON.out] at HKQ0
                go_wp2_with fail
                refine HKQ0.out.mono ?_
                rintro e wp ⟨ap, cp, rfl, ⟨hrp, _⟩, hst, hb⟩
                have HSP := Lib.hid hst
                have HRWP := Lib.hid (LiesAt.below HRW5.out hb)
                have HSK0 := Lib.hid (samekeys_any ap ao kon cp co ko wp hrp (LiesAt.below HRO5.out hb) HKON.out hkoi)
                clear hrp hst hb HKQ0
                go_wp2_with fail
                refine HSK0.out.mono ?_
                rintro e wq ⟨rfl, hb⟩
                have HSQ := Lib.hid (HSP.out.keep hb)
                have HRWQ := Lib.hid (LiesAt.below HRWP.out hb)
                clear hb HSK0
                have HUN := Lib.hid (st_unlock2 HSQ.out other)
                go_wp2_with fail
                refine HUN.out.mono ?_
                rintro e w7 ⟨rfl, hst, _⟩
                have HS7 := Lib.hid hst
                have HK7 := Lib.hid (st_keys hst other)
                rw [keysOf_unlock_own HSQ.out.fine] at HK7
                clear hst HUN
                go_wp2_with fail
                refine HK7.out.mono ?_
                rintro e w8 ⟨a8, c8, rfl, _, hst, _⟩
                have HMY := Lib.hid (many_any b m _ w8 hst.at_)
                have HB8 := Lib.hid hst.below
                obtain ⟨m8, hm8⟩ : ∃ z, z = (unlockL L1 other).length := ⟨_, rfl⟩
                have hm8i : (m8 : Int) ≤ 128 := by have := hst.fine.small; rw [← hm8] at this; omega
                rw [← hm8] at HMY
                clear hst HK7 hm8
                go_wp2_with fail
                refine HMY.out.mono ?_
                rintro e w8' ⟨rfl, rfl⟩
                go_wp2_with fail
                go_ret
                exact ⟨rfl, HB8.out⟩
              · have hne : (other != who) = true := by simpa using hoth
                have heq : (other == who) = false := by simpa using hoth
                have HOTH := Lib.hid hoth
                clear hoth
                have HKQ0 := Lib.hid (st_keys HS5.out who)
                rw [HL1O.out, ← HKON.out] at HKQ0
                go_wp2_with fail
                refine HKQ0.out.mono ?_
                rintro e wp ⟨ap, cp, rfl, ⟨hrp, _⟩, hst, hb⟩
                have HSP := Lib.hid hst
                have HRWP := Lib.hid (LiesAt.below HRW5.out hb)
                have HSK0 := Lib.hid (samekeys_any ap ao kon cp co ko wp hrp (LiesAt.below HRO5.out hb) HKON.out hkoi)
                clear hrp hst hb HKQ0
                go_wp2_with fail
                refine HSK0.out.mono ?_
                rintro e wq ⟨rfl, hb⟩
                have HSQ := Lib.hid (HSP.out.keep hb)
                have HRWQ := Lib.hid (LiesAt.below HRWP.out hb)
                clear hb HSK0
                have HKQ := Lib.hid (st_keys HSQ.out other)
                rw [HKE1.out HOTH.out, ← HKWN.out] at HKQ
                go_wp2_with fail
                refine HKQ.out.mono ?_
                rintro e wa ⟨aa, ca, rfl, ⟨hra, _⟩, hst, hb⟩
                have HSA := Lib.hid hst
                have HRWA := Lib.hid (LiesAt.below HRWQ.out hb)
                have HSK := Lib.hid (samekeys_any aa aw kwn ca cw kw wa hra HRWA.out HKWN.out hkwi)
                clear hra hst hb HKQ
                go_wp2_with fail
                refine HSK.out.mono ?_
                rintro e wb ⟨rfl, hb⟩
                have HSB := Lib.hid (HSA.out.keep hb)
                have HRWB := Lib.hid (LiesAt.below HRWA.out hb)
                clear hb HSK
                have HUN := Lib.hid (st_unlock2 HSB.out who)
                go_wp2_with fail
                refine HUN.out.mono ?_
                rintro e w7 ⟨rfl, hst, hw⟩
                have HS7 := Lib.hid hst
                have HRW7 := Lib.hid (strs_keep HSB.out HRWB.out hw)
                have HK7 := Lib.hid (st_keys hst who)
                rw [keysOf_unlock_own HSB.out.fine] at HK7
                clear hst hw HUN
                go_wp2_with fail
                refine HK7.out.mono ?_
                rintro e w8 ⟨a8, c8, rfl, _, hst, hb⟩
                have HS8 := Lib.hid hst
                have HRW8 := Lib.hid (LiesAt.below HRW7.out hb)
                have HK9 := Lib.hid (st_keys hst other)
                rw [keysOf_unlock_other HSB.out.fine HOTH.out, HKE1.out HOTH.out, ← HKWN.out] at HK9
                clear hst hb HK7
                go_wp2_with fail
                refine HK9.out.mono ?_
                rintro e w9 ⟨a9, c9, rfl, ⟨hr9, _⟩, hst, hb⟩
                have HS9 := Lib.hid hst
                have HSK := Lib.hid (samekeys_any a9 aw kwn c9 cw kw w9 hr9 (LiesAt.below HRW8.out hb) HKWN.out hkwi)
                clear hst hb hr9 HK9
                go_wp2_with fail
                refine HSK.out.mono ?_
                rintro e w10 ⟨rfl, hb⟩
                have HS10 := Lib.hid (HS9.out.keep hb)
                have HMY := Lib.hid (many_any b m _ w10 HS10.out.at_)
                have HB10 := Lib.hid HS10.out.below
                obtain ⟨m8, hm8⟩ : ∃ z, z = (unlockL L1 who).length := ⟨_, rfl⟩
                have hm8i : (m8 : Int) ≤ 128 := by have := HS10.out.fine.small; rw [← hm8] at this; omega
                rw [← hm8] at HMY
                clear hb HSK hm8
                go_wp2_with fail
                refine HMY.out.mono ?_
                rintro e w10' ⟨rfl, rfl⟩
                go_wp2_with fail
                go_ret
                exact ⟨rfl, HB10.out⟩
end Go.Proofs.Ytfojgghnkjmjhaa.Locks
