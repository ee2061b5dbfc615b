/- Locks: LocksTwice. -/
import Derived.Test.YtfojgghnkjmjhaaLkSt
namespace Go.Proofs.Ytfojgghnkjmjhaa.Locks
open Go.RowKit Go.My

set_option maxRecDepth 100000 in
set_option maxHeartbeats 12800000 in
theorem twice_5 (a : Option Addr) (cap : Nat) (l : List LOp) (who : Int) (ka : Option Addr) (kcap : Nat) (keys : List ByteArray) (other : Int) (w : World) (ho : OpsAt w a l) (hm : l.length ≤ maxLen) (hk : StrsAt w ka keys) (hkm : keys.length ≤ maxLen) :
    Calls Try.prog 5 #[.slice a l.length cap, .int .i64 who, .slice ka keys.length kcap, .int .i64 other] w fun e w' => e = .returned (.bool true) ∧ Below w.heap.size w w' := by
  have HH := Lib.hid (head_any w)
  have HO := Lib.hid ho
  have HKS := Lib.hid hk
  have HGR : Hid (∀ W, Below w.heap.size w W → Calls Try.prog 8 #[.slice a l.length cap] W (GreatLeft W l)) := fun W hW => great_any a l cap W w ho hW hm
  obtain ⟨n, hn⟩ : ∃ n, n = l.length := ⟨_, rfl⟩
  obtain ⟨kn, hkn⟩ : ∃ n, n = keys.length := ⟨_, rfl⟩
  have HN := Lib.hid hn
  have HKN := Lib.hid hkn
  rw [← hn] at HGR hm ⊢
  rw [← hkn] at hkm ⊢
  unfold maxLen at hm hkm
  clear ho hk hn hkn
  go_enter Try.func5, Try.ntmps5
  go_wp2_with fail
  refine HH.out.mono ?_
  rintro e w1 ⟨rfl, hb⟩
  have HB1 := Lib.hid hb
  clear hb
  go_wp2_with fail
  refine (new_any _).mono ?_
  intro e w2 he
  obtain ⟨b, m, rfl, hst⟩ := st_new HB1.out he
  have HST := Lib.hid hst
  clear he hst
  go_wp2_with fail
  refine (HGR.out _ HST.out.below).mono ?_
  rintro e w2' ⟨gr, rfl, hgr, rfl⟩
  cases gr with
  | true =>
    clear hgr
    go_wp2_with fail
    go_ret
    exact ⟨rfl, HST.out.below⟩
  | false =>
    obtain ⟨hl, hsz⟩ := hgr rfl
    have HSZ := Lib.hid hsz
    rw [← HN.out] at hl
    clear hgr hsz
    by_cases hk300 : (300 : Int) < (kn : Int)
    · go_wp2_with fail
      go_ret
      exact ⟨rfl, HST.out.below⟩
    have P1 : Hid (∃ L, LkSt w b m L w2) := ⟨_, HST.out⟩
    clear HST
    go_wp2_with fail
    go_loopw [11] (fun i wr => ∃ j : Nat, j ≤ n ∧ i = .int .i64 j ∧ Hid (∃ L, LkSt w b m L wr)) (fun i _ => n - (intOf i).toNat)
    case atStart => exact ⟨0, by omega, rfl, P1⟩
    case round =>
      clear P1
      obtain ⟨j, hj, rfl, L, hst⟩ := hrel
      have HST := Lib.hid hst
      clear hst
      by_cases hlt : j < n
      · obtain ⟨x, hx⟩ : ∃ x, l[j]? = some x := ⟨_, List.getElem?_eq_getElem (by rw [← HN.out]; exact hlt)⟩
        obtain ⟨g, o, xa, xcap, rfl, hc, hxs, _⟩ := HO.out.get hx
        have HXS := Lib.hid hxs
        have HXL : Hid (x.keys.length ≤ 10000) := by have := HSZ.out x (List.mem_of_getElem? hx); show _ ≤ _; omega
        obtain ⟨_, d1, d2⟩ := hc _ HST.out.below
        have HD := Lib.hid (HST.out.drewN 1)
        have hj0 : (0 : Int) ≤ (j : Int) := by omega
        have hj1 : (j : Int) < (n : Int) := by omega
        clear hx hc hxs
        go_wp2_with fail
        refine wp_region_tail 11 (by kernel_rfl) (by kernel_rfl) ?_
        simp only [List.take_succ_cons, List.take_zero, List.drop_succ_cons, List.drop_zero]
        repeat still_step
        refine wpStill_nil ?_
        go_wp2_with fail
        refine (st_lock HD.out x.who xa xcap x.keys HXS.out HXL.out).mono ?_
        rintro e w3 ⟨rfl, hst⟩
        have HNX : Hid (∃ L, LkSt w b m L w3) := ⟨_, hst⟩
        clear hst d1 d2
        go_wp2_with fail
        exact ⟨⟨j + 1, by omega, by simp, HNX⟩, by simp [intOf]; omega⟩
      · obtain rfl : j = n := by omega
        have HKL : Hid (keys.length ≤ 10000) := by have := HKN.out; show _ ≤ _; omega
        have HL := Lib.hid (st_lock HST.out who ka kcap keys HKS.out HKL.out)
        rw [← HKN.out] at HL
        cases hE : lockE L who keys with
        | some p =>
          obtain ⟨en, ea⟩ := p
          rw [hE] at HL
          simp only [errV, wrapV] at HL
          clear hE
          go_wp2_with fail
          refine HL.out.mono ?_
          rintro e w3 ⟨rfl, hst⟩
          have HB3 := Lib.hid hst.below
          clear hst
          go_wp2_with fail
          go_ret
          exact ⟨rfl, HB3.out⟩
        | none =>
          have HE := Lib.hid hE
          rw [hE] at HL
          simp only [errV] at HL
          have HAG := Lib.hid (lock_again HST.out.fine hE)
          have HFR := Lib.hid (lock_free (other := other) HST.out.fine hE)
          obtain ⟨L1, hL1⟩ : ∃ L1, L1 = lockL L who keys := ⟨_, rfl⟩
          rw [← hL1] at HL HAG HFR
          obtain ⟨L3, hL3⟩ : ∃ L3, L3 = unlockL L1 who := ⟨_, rfl⟩
          rw [← hL3] at HFR
          have HL3 := Lib.hid hL3
          clear hE hL1 hL3
          go_wp2_with fail
          refine HL.out.mono ?_
          rintro e w3 ⟨rfl, hst⟩
          have HS3 := Lib.hid hst
          have HMY := Lib.hid (many_any b m L1 w3 hst.at_)
          obtain ⟨m1, hm1⟩ : ∃ m1, m1 = L1.length := ⟨_, rfl⟩
          have HM1 := Lib.hid hm1
          rw [← hm1] at HMY
          have HL2 := Lib.hid (st_lock hst who ka kcap keys HKS.out HKL.out)
          rw [← HKN.out, HAG.out.1, HAG.out.2] at HL2
          simp only [errV] at HL2
          clear hst hm1 HL
          go_wp2_with fail
          refine HMY.out.mono ?_
          rintro e w3' ⟨rfl, rfl⟩
          go_wp2_with fail
          refine HL2.out.mono ?_
          rintro e w4 ⟨rfl, hst⟩
          have HS4 := Lib.hid hst
          have HMY4 := Lib.hid (many_any b m L1 w4 hst.at_)
          rw [← HM1.out] at HMY4
          have HUN := Lib.hid (st_unlock hst who)
          rw [← HL3.out] at HUN
          clear hst HL2 HMY
          go_wp2_with fail
          refine HMY4.out.mono ?_
          rintro e w4' ⟨rfl, rfl⟩
          go_wp2_with fail
          refine HUN.out.mono ?_
          rintro e w5 ⟨rfl, hst⟩
          have HS5 := Lib.hid hst
          have HL6 := Lib.hid (st_lock hst other ka kcap keys HKS.out HKL.out)
          rw [← HKN.out] at HL6
          clear hst HUN HMY4
          by_cases hoth : other < 0
          · rw [lockE_neg hoth] at HL6
            simp only [errV, wrapV] at HL6
            have hoth2 : decide (0 ≤ other) = false := by simpa using hoth
            clear hoth
            go_wp2_with fail
            refine HL6.out.mono ?_
            rintro e w6 ⟨rfl, hst⟩
            have HB6 := Lib.hid hst.below
            clear hst
            go_wp2_with fail
            go_ret
            exact ⟨rfl, HB6.out⟩
          · have hoth2 : 0 ≤ other := by omega
            rw [HFR.out.1 hoth2] at HL6
            simp only [errV] at HL6
            obtain ⟨L6, hL6⟩ : ∃ L6, L6 = lockL L3 other keys := ⟨_, rfl⟩
            obtain ⟨m6, hm6⟩ : ∃ m6, m6 = L6.length := ⟨_, rfl⟩
            have hle : m6 ≤ m1 := by rw [hm6, hL6, HM1.out]; exact HFR.out.2
            have hle2 : (m6 : Int) ≤ (m1 : Int) := by omega
            rw [← hL6] at HL6
            have HM6 := Lib.hid hm6
            clear hL6 hm6 hle
            go_wp2_with fail
            refine HL6.out.mono ?_
            rintro e w6 ⟨rfl, hst⟩
            have HB6 := Lib.hid hst.below
            have HMY6 := Lib.hid (many_any b m L6 w6 hst.at_)
            rw [← HM6.out] at HMY6
            clear hst
            go_wp2_with fail
            refine HMY6.out.mono ?_
            rintro e w6' ⟨rfl, rfl⟩
            go_wp2_with fail
            go_ret
            exact ⟨rfl, HB6.out⟩
end Go.Proofs.Ytfojgghnkjmjhaa.Locks
