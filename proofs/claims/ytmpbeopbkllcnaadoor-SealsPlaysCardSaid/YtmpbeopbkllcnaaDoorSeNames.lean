/- Seals: the names, walked. -/
import Derived.Test.YtmpbeopbkllcnaaDoorSeHead
import Derived.Deep.DeepCutAuto
namespace Go.Proofs.YtmpbeopbkllcnaaDoor.Seals
open Go.RowKit Go.My

set_option maxRecDepth 100000 in
theorem rclient_any (i : Int) (w : World) : Calls Tryd.prog 49 #[.int .i64 i] w fun e w' => e = .returned (.int .i64 (cli i)) ∧ w = w' := by
  by_cases h1 : i < 0
  · have e : cli i = -1 := by unfold cli; rw [if_neg (by omega)]
    rw [e]
    clear e
    go_enter Tryd.func49, Tryd.ntmps49
    go_wp2
    go_ret
    exact ⟨rfl, rfl⟩
  · by_cases h2 : 16 ≤ i
    · have e : cli i = -1 := by unfold cli; rw [if_neg (by omega)]
      rw [e]
      clear e
      go_enter Tryd.func49, Tryd.ntmps49
      go_wp2
      go_ret
      exact ⟨rfl, rfl⟩
    · have e : cli i = i := by unfold cli; rw [if_pos (by omega)]
      rw [e]
      clear e
      go_enter Tryd.func49, Tryd.ntmps49
      go_wp2
      go_ret
      exact ⟨rfl, rfl⟩

set_option maxRecDepth 100000 in
theorem rmember_any (g i : Int) (w : World) : Calls Tryd.prog 51 #[.int .i64 g, .int .i64 i] w fun e w' => e = .returned (.int .i64 (mem g i)) ∧ w = w' := by
  by_cases h1 : g < 0
  · have e : mem g i = -1 := by unfold mem; rw [if_neg (by omega)]
    rw [e]
    clear e
    go_enter Tryd.func51, Tryd.ntmps51
    go_wp2
    go_ret
    exact ⟨rfl, rfl⟩
  · by_cases h2 : 8 ≤ g
    · have e : mem g i = -1 := by unfold mem; rw [if_neg (by omega)]
      rw [e]
      clear e
      go_enter Tryd.func51, Tryd.ntmps51
      go_wp2
      go_ret
      exact ⟨rfl, rfl⟩
    · by_cases h3 : i < 0
      · have e : mem g i = -1 := by unfold mem; rw [if_neg (by omega)]
        rw [e]
        clear e
        go_enter Tryd.func51, Tryd.ntmps51
        go_wp2
        go_ret
        exact ⟨rfl, rfl⟩
      · by_cases h4 : 9 < i
        · have e : mem g i = -1 := by unfold mem; rw [if_neg (by omega)]
          rw [e]
          clear e
          go_enter Tryd.func51, Tryd.ntmps51
          go_wp2
          go_ret
          exact ⟨rfl, rfl⟩
        · have e : mem g i = 100 + 16 * g + i := by unfold mem; rw [if_pos (by omega)]; omega
          rw [e]
          clear e
          go_enter Tryd.func51, Tryd.ntmps51
          go_wp2
          go_ret
          exact ⟨rfl, rfl⟩

theorem grp_mem {g i : Int} (h1 : 0 ≤ g) (h2 : g < 8) (h3 : 0 ≤ i) (h4 : i < 10) : grp (mem g i) = (g, i) := by
  unfold mem
  rw [if_pos ⟨h1, h2, h3, h4⟩]
  unfold grp
  rw [if_neg (by omega), if_neg (by omega)]
  exact Prod.ext (by show (100 + g * 16 + i - 100) / 16 = g; omega) (by show (100 + g * 16 + i - 100) % 16 = i; omega)
theorem mem_grp {who : Int} (h : 0 ≤ (grp who).1) : mem (grp who).1 (grp who).2 = who := by
  unfold grp at h ⊢
  split at h
  · simp at h
  · split at h
    · simp at h
    · rename_i h1 h2
      rw [if_neg h1, if_neg h2]
      unfold mem
      rw [if_pos (by show 0 ≤ (who - 100) / 16 ∧ (who - 100) / 16 < 8 ∧ 0 ≤ (who - 100) % 16 ∧ (who - 100) % 16 < 10; omega)]
      show 100 + (who - 100) / 16 * 16 + (who - 100) % 16 = who
      omega
theorem cli_mem {g i : Int} (h : 0 ≤ mem g i) : cli (mem g i) = -1 ∧ 0 ≤ g ∧ g < 8 ∧ 0 ≤ i ∧ i < 10 := by
  unfold mem at h ⊢
  split at h
  · rename_i hc
    rw [if_pos hc]
    exact ⟨by unfold cli; rw [if_neg (by omega)], hc⟩
  · simp at h

def NoneYet (who : Int) (g i : Nat) : Prop := ∀ g' i' : Nat, g' < 8 → i' < 10 → (g' < g ∨ g' = g ∧ i' < i) → mem g' i' ≠ who
theorem NoneYet.next {who : Int} {g i : Nat} (h : NoneYet who g i) (hne : mem g i ≠ who) : NoneYet who g (i + 1) := by
  intro g' i' h1 h2 h3
  by_cases hc : g' = g ∧ i' = i
  · rw [hc.1, hc.2]; exact hne
  · exact h g' i' h1 h2 (by omega)
theorem NoneYet.row {who : Int} {g : Nat} (h : NoneYet who g 10) : NoneYet who (g + 1) 0 := fun g' i' h1 h2 h3 => h g' i' h1 h2 (by omega)
theorem NoneYet.over {who : Int} (h : NoneYet who 8 0) : grp who = (-1, -1) := by
  by_cases hc : 0 ≤ (grp who).1
  · exfalso
    have hm := mem_grp hc
    have hb : (grp who).1 < 8 ∧ 0 ≤ (grp who).2 ∧ (grp who).2 < 10 := by
      unfold grp at hc ⊢
      split at hc
      · simp at hc
      · split at hc
        · simp at hc
        · rename_i h1 h2
          rw [if_neg h1, if_neg h2]
          show (who - 100) / 16 < 8 ∧ 0 ≤ (who - 100) % 16 ∧ (who - 100) % 16 < 10
          omega
    refine h (grp who).1.toNat (grp who).2.toNat (by omega) (by omega) (by omega) ?_
    rw [Int.toNat_of_nonneg hc, Int.toNat_of_nonneg hb.2.1]
    exact hm
  · unfold grp at hc ⊢
    split
    · rfl
    · split
      · rfl
      · rename_i h1 h2
        rw [if_neg h1, if_neg h2] at hc
        exact absurd (show 0 ≤ (who - 100) / 16 by omega) hc

set_option maxRecDepth 100000 in
set_option maxHeartbeats 1600000 in
theorem rgroup_any (who : Int) (w : World) : Calls Tryd.prog 48 #[.int .i64 who] w fun e w' => e = .returned (.tuple #[.int .i64 (grp who).1, .int .i64 (grp who).2]) ∧ w = w' := by
  go_enter Tryd.func48, Tryd.ntmps48
  go_wp2_with fail
  go_loopw [4] (fun i wr => ∃ g : Nat, g ≤ 8 ∧ i = .int .i64 g ∧ w = wr ∧ NoneYet who g 0) (fun i _ => 8 - (intOf i).toNat)
  case atStart => exact ⟨0, by omega, rfl, rfl, fun g' i' h1 h2 h3 => by omega⟩
  case round =>
    obtain ⟨g, hg, rfl, rfl, hn⟩ := hrel
    have HN := Lib.hid hn
    clear hn
    by_cases hlt : g < 8
    · have h8 : (g : Int) < 8 := by omega
      go_wp2_with fail
      go_loopw [5] (fun i wr => ∃ k : Nat, k ≤ 10 ∧ i = .int .i64 k ∧ w = wr ∧ NoneYet who g k) (fun i _ => 10 - (intOf i).toNat)
      case atStart => exact ⟨0, by omega, rfl, rfl, HN.out⟩
      case round =>
        obtain ⟨k, hk, rfl, rfl, hn⟩ := hrel
        have HK := Lib.hid hn
        have HM := Lib.hid (rmember_any (g : Int) (k : Int))
        clear hn
        by_cases hkt : k < 10
        · have h9 : (k : Int) ≤ 9 := by omega
          obtain ⟨q, hq⟩ : ∃ q, q = mem (g : Int) (k : Int) := ⟨_, rfl⟩
          rw [← hq] at HM
          by_cases hw : q = who
          · have HF : Hid (grp who = ((g : Int), (k : Int))) := by show _ = _; rw [← hw, hq]; exact grp_mem (by omega) (by omega) (by omega) (by omega)
            have f : (q == who) = true := by simp [hw]
            clear hq hw
            go_wp2_with (go_at_call 51; refine (HM.out _).mono ?_; rintro e w' ⟨rfl, rfl⟩)
            go_ret2
            rw [HF.out]
            exact ⟨rfl, rfl⟩
          · have HX : Hid (NoneYet who g (k + 1)) := HK.out.next (by rw [← hq]; exact hw)
            have f : (q == who) = false := by simp [hw]
            clear hq hw
            go_wp2_with (go_at_call 51; refine (HM.out _).mono ?_; rintro e w' ⟨rfl, rfl⟩)
            go_roundw
            case rel => exact ⟨k + 1, by omega, by go_num, trivial, HX.out⟩
            case measure => simp [intOf]; omega
        · have h9 : ¬ (k : Int) ≤ 9 := by omega
          go_wp2_with fail
          have hk10 : k = 10 := by omega
          subst hk10
          go_roundw
          case rel => exact ⟨g + 1, by omega, by go_num, trivial, HK.out.row⟩
          case measure => simp [intOf]; omega
    · go_wp2_with fail
      go_ret2
      have hg8 : g = 8 := by omega
      subst hg8
      rw [HN.out.over]
      exact ⟨rfl, rfl⟩

end Go.Proofs.YtmpbeopbkllcnaaDoor.Seals
