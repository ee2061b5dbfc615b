/- Seals: the document's Who, and what is alike. -/
import Derived.Test.YtmpbeopbkllcnaaDoorSeRef
namespace Go.Proofs.YtmpbeopbkllcnaaDoor.Seals
open Go.RowKit Go.My

theorem rsigned_l (base d : Nat) (v : Value) (l : Seals) (who dg : Int) (w : World) (h : RsAt w base d v (l.map (·.1))) (hl : l.length ≤ 1000) :
    Calls Tryd.prog 14 #[.pointer (some ⟨d, 0, none⟩), .int .i64 who, .int .i64 dg] w fun e w' => e = .returned (.bool (signedB l who dg)) ∧ w = w' := by
  have := rsigned_any base d v (l.map (·.1)) who dg w h (by simpa using hl)
  rw [← aget_has] at this
  exact this
set_option maxRecDepth 100000 in
set_option maxHeartbeats 1600000 in
theorem rwho_any (base d : Nat) (v0 : Value) (l : Seals) (g dg : Int) (w : World) (h : RsAt w base d v0 (l.map (·.1))) (hl : l.length ≤ 1000) :
    Calls Tryd.prog 16 #[.pointer (some ⟨d, 0, none⟩), .int .i64 g, .int .i64 dg] w (WhoLeft w l g dg) := by
  obtain ⟨i0, hi0, hz0, hz1, hz2⟩ := info_parts int_info
  have HI := Lib.hid hi0
  have HZ := Lib.hid hz0
  have HS := Lib.hid hz1
  have HY := Lib.hid hz2
  have HN := Lib.hid h
  have HL := Lib.hid hl
  clear h hl hi0 hz0 hz1 hz2
  go_enter Tryd.func16, Tryd.ntmps16
  go_wp2_with fail
  go_loopw [7, 8] (fun v i wr => ∃ k : Nat, k ≤ 10 ∧ i = .int .i64 k ∧ WhoRel w l g dg k v wr) (fun _ i _ => 10 - (intOf i).toNat)
  case atStart => exact ⟨0, by omega, rfl, World.ownsRow_nil _ _ _ _, Below.refl _ _⟩
  case round =>
    obtain ⟨k, hk, rfl, hrel⟩ := hrel
    have H := Lib.hid hrel
    clear hrel
    by_cases hlt : k < 10
    · have hlt9 : (k : Int) ≤ 9 := by omega
      have HM := Lib.hid (rmember_any g (k : Int))
      obtain ⟨q, hq⟩ : ∃ q, q = mem g (k : Int) := ⟨_, rfl⟩
      have HP : Hid (whoP l g dg k = (decide (0 ≤ q) && signedB l q dg)) := by show _ = _; rw [hq]; rfl
      rw [← hq] at HM
      clear hq
      by_cases hq0 : q < 0
      · have HV : Hid (whoP l g dg k = false) := by show _ = _; rw [HP.out]; simp; omega
        go_wp2_with (go_at_call 51; refine (HM.out _).mono ?_; rintro e w' ⟨rfl, rfl⟩)
        go_roundw
        case rel => exact ⟨k + 1, by omega, by go_num, by unfold WhoRel; rw [whoK_no hlt HV.out]; exact H.out⟩
        case measure => simp [intOf]; omega
      · have HSG := Lib.hid (rsigned_l base d v0 l q dg wr (HN.out.below H.out.2) HL.out)
        cases hs : signedB l q dg with
        | false =>
          have HV : Hid (whoP l g dg k = false) := by show _ = _; rw [HP.out, hs]; simp
          rw [hs] at HSG
          clear hs
          go_wp2_with (first | (go_at_call 51; refine (HM.out _).mono ?_; rintro e w' ⟨rfl, rfl⟩) | (go_at_call 14; refine HSG.out.mono ?_; rintro e w1 ⟨rfl, rfl⟩))
          go_roundw
          case rel => exact ⟨k + 1, by omega, by go_num, by unfold WhoRel; rw [whoK_no hlt HV.out]; exact H.out⟩
          case measure => simp [intOf]; omega
        | true =>
          have HV : Hid (whoP l g dg k = true) := by show _ = _; rw [HP.out, hs]; simp; omega
          rw [hs] at HSG
          clear hs
          have hlen := whoK_len l g dg k
          go_wp2_with (first | (go_at_call 51; refine (HM.out _).mono ?_; rintro e w' ⟨rfl, rfl⟩) | (go_at_call 14; refine HSG.out.mono ?_; rintro e w1 ⟨rfl, rfl⟩) | (at_builtin; refine wpList_append_own _ rfl _ _ 44 rfl w.heap.size 3 i0 (.int .i64 0) 1 8 Tryd.underlying44 HI.out HZ.out HS.out HY.out rfl (by decide) _ _ _ rfl (H.out.1.alloc _) ⟨wr.heap.size, 0, none⟩ 1 1 [.int .i64 (k : Int)] rfl rfl ?c1 ?c2 ?c3 ?c4 ?c5 ?_))
          case c1 => exact cell_one_new _ _ _
          case c2 => simp [Value.oneCell']
          case c3 => unfold maxLen; omega
          case c4 => omega
          case c5 => have := H.out.2.size; simp; omega
          intro v1 w2 hown1 hgrow1 _
          have hrel1 : WhoRel w l g dg (k + 1) v1 w2 := by
            have hb := ((Below.refl w.heap.size wr).alloc H.out.2.size (.cells #[.int .i64 (k : Int)] 3))
            refine ⟨?_, H.out.2.trans (hb.grown hgrow1 (Nat.le_trans H.out.2.size hb.size) (fun b hb => (H.out.1.lt b hb).1))⟩
            rw [whoK_yes hlt HV.out]
            simpa [i64] using hown1
          have HR := Lib.hid hrel1
          clear hrel1 hown1 hgrow1
          go_wp2_with fail
          go_roundw
          case rel => exact ⟨k + 1, by omega, by go_num, HR.out⟩
          case measure => simp [intOf]; omega
    · have hlt9 : ¬ (k : Int) ≤ 9 := by omega
      go_wp2_with fail
      go_ret
      have hk10 : k = 10 := by omega
      subst hk10
      exact ⟨_, rfl, H.out.1, H.out.2⟩
set_option maxRecDepth 100000 in
set_option maxHeartbeats 1600000 in
theorem sameints_17 (a b : Option Addr) (n c d : Nat) (R : List Int) (w : World) (ha : Lies w a 1 (fun x => [i64 x]) R) (hb : Lies w b 1 (fun x => [i64 x]) R) (hn : n = R.length) (hl : (n : Int) ≤ 1000) :
    Calls Tryd.prog 17 #[.slice a n c, .slice b n d] w (BoolLeft w true) := by
  have HA := Lib.hid ha
  have HB := Lib.hid hb
  have HN := Lib.hid hn
  have P0 : Hid (Below w.heap.size w w) := Below.refl _ _
  clear ha hb hn
  go_enter Tryd.func17, Tryd.ntmps17
  go_wp2_with fail
  go_loopw [5] (fun i wr => ∃ j : Nat, j ≤ n ∧ i = .int .i64 j ∧ Hid (Below w.heap.size w wr)) (fun i _ => n - (intOf i).toNat)
  case atStart => exact ⟨0, by omega, rfl, P0⟩
  case round =>
    clear P0
    obtain ⟨j, hj, rfl, HW⟩ := hrel
    by_cases hlt : j < n
    · obtain ⟨x, hx⟩ : ∃ x, R[j]? = some x := ⟨_, List.getElem?_eq_getElem (by rw [← HN.out]; exact hlt)⟩
      obtain ⟨g, o, rfl, hg, hc⟩ := HA.out.below HW.out j x hx
      obtain ⟨g2, o2, rfl, hg2, hc2⟩ := HB.out.below HW.out j x hx
      have d0 : wr.cell? ⟨g, o + j, none⟩ = some (.int .i64 x) := by simpa [i64] using hc 0 _ rfl
      have e0 : wr.cell? ⟨g2, o2 + j, none⟩ = some (.int .i64 x) := by simpa [i64] using hc2 0 _ rfl
      have hj0 : (0 : Int) ≤ (j : Int) := by omega
      have hj1 : (j : Int) < (n : Int) := by omega
      have HD : Hid (∀ q, Below w.heap.size w (wr.drewN q)) := fun q => ⟨HW.out.os, HW.out.tape, HW.out.output, HW.out.size, HW.out.block⟩
      clear hc hc2 hx
      go_wp2_with fail
      go_quiet (fail)
      go_wp2_with fail
      exact ⟨⟨j + 1, by omega, by simp, HD.out _⟩, by simp [intOf]; omega⟩
    · obtain rfl : j = n := by omega
      go_wp2_with fail
      go_ret
      exact ⟨rfl, HW.out⟩
end Go.Proofs.YtmpbeopbkllcnaaDoor.Seals
