/- The open numbers: Vote, Who. -/
import Derived.Test.YtelmgaaofighpaaAt
namespace Go.Proofs.Ytelmgaaofighpaa
open Go.RowKit Go.My Go.My.Slots

theorem below_drewN {B : Nat} {a w : World} (h : Below B a w) (n : Nat) : Below B a (w.drewN n) := ⟨h.os, h.tape, h.output, h.size, h.block⟩
theorem vote_no {I : Ids} {s : St} {kind n who d : Int} {w w' : World} (h : SlotsAt w I s) (hb : Below w.heap.size w w') (hv : voteB s kind n who d = false) :
    Left w I (voteB s kind n who d) (vote s kind n who d) (.returned (.bool false)) w' := by
  unfold vote
  rw [hv]
  exact ⟨rfl, h.below hb, Wrote.of_below hb⟩
theorem vote_yes {I : Ids} {s : St} {kind n who d : Int} {w w0 w' : World} (h : SlotsAt w I s) (hb : Below w.heap.size w w0) (hm : MapAt w' I.bv bal i64 (aput s.votes (kind, n, who) d)) (ht : Wrote [I.bv] w0 w') (hv : voteB s kind n who d = true) :
    Left w I (voteB s kind n who d) (vote s kind n who d) (.returned (.bool true)) w' := by
  unfold vote
  rw [hv]
  refine ⟨rfl, (h.below hb).setVotes ht hm, (Wrote.of_below (S := I.list) hb).trans (ht.mono (by simp [Ids.list]))⟩

theorem voted_some {I : Ids} {s : St} {kind n who d x : Int} {w : World} (h : SlotsAt w I s) (hg : aget s.votes (kind, n, who) = some x)
    (hlk : ∀ k, (Instr.lookup 58 (.map (some I.bv)) (.agg #[.int .i64 kind, .int .i64 n, .int .i64 who]) true).run Try.prog ((w.alloc (.cells #[.int .i64 kind, .int .i64 n, .int .i64 who] 64)).drewN k) =
      .ok (.tuple #[.int .i64 x, .bool true]) ((w.alloc (.cells #[.int .i64 kind, .int .i64 n, .int .i64 who] 64)).drewN k)) :
    Calls Try.prog 27 #[.pointer (some ⟨I.b, 0, none⟩), .int .i64 kind, .int .i64 n, .int .i64 who, .int .i64 d] w (Left w I (voteB s kind n who d) (vote s kind n who d)) := by
  have c4 := h.c4
  have hlt := h.lt
  have hv : voteB s kind n who d = false := by simp [voteB, hg]
  have HN := Lib.hid h
  have HV := Lib.hid hv
  clear h hg hv
  by_cases h1 : kind = 1
  · subst h1
    go_enter Try.func27, Try.ntmps27
    go_wp2_with fail
    go_quiet (fail)
    go_wp2_with fail
    go_ret
    exact vote_no HN.out (((Below.refl _ _).alloc (Nat.le_refl _) _).trans (below_drewN (Below.refl _ _) _)) HV.out
  · by_cases h2 : kind = 2
    · subst h2
      go_enter Try.func27, Try.ntmps27
      go_wp2_with fail
      go_quiet (fail)
      go_wp2_with fail
      go_ret
      exact vote_no HN.out (((Below.refl _ _).alloc (Nat.le_refl _) _).trans (below_drewN (Below.refl _ _) _)) HV.out
    · have e1 : (kind == 1) = false := by simpa using h1
      have e2 : (kind == 2) = false := by simpa using h2
      clear h1 h2
      go_enter Try.func27, Try.ntmps27
      go_wp2_with fail
      go_quiet (fail)
      go_wp2_with fail
      go_ret
      exact vote_no HN.out (((Below.refl _ _).alloc (Nat.le_refl _) _).trans (below_drewN (Below.refl _ _) _)) HV.out

set_option maxRecDepth 100000 in
set_option maxHeartbeats 3200000 in
theorem voted_none {I : Ids} {s : St} {kind n who d : Int} {w : World} (h : SlotsAt w I s) (hi : Inv s) (hn : n ≤ 9223372036854775807) (hg : aget s.votes (kind, n, who) = none)
    (hlk : ∀ k, (Instr.lookup 58 (.map (some I.bv)) (.agg #[.int .i64 kind, .int .i64 n, .int .i64 who]) true).run Try.prog ((w.alloc (.cells #[.int .i64 kind, .int .i64 n, .int .i64 who] 64)).drewN k) =
      .ok (.tuple #[.int .i64 0, .bool false]) ((w.alloc (.cells #[.int .i64 kind, .int .i64 n, .int .i64 who] 64)).drewN k)) :
    Calls Try.prog 27 #[.pointer (some ⟨I.b, 0, none⟩), .int .i64 kind, .int .i64 n, .int .i64 who, .int .i64 d] w (Left w I (voteB s kind n who d) (vote s kind n who d)) := by
  have c4 := h.c4
  have hlt := h.lt
  have HOP := Lib.hid (fun k => open_any I.b s.low n ((w.alloc (.cells #[.int .i64 kind, .int .i64 n, .int .i64 who] 64)).drewN k) ((h.alloc _).c0) hi.low0 hn)
  have HN := Lib.hid h
  have HG := Lib.hid hg
  clear h hg hn
  by_cases h1 : kind = 1 ∨ kind = 2
  · have HK := Lib.hid h1
    have HB : Hid (Below w.heap.size w (w.alloc (.cells #[.int .i64 kind, .int .i64 n, .int .i64 who] 64))) := (Below.refl _ _).alloc (Nat.le_refl _) _
    have HM := Lib.hid (fun k => (HN.out.votes.alloc (.cells #[.int .i64 kind, .int .i64 n, .int .i64 who] 64)).drewN k)
    cases ho : openI s.low n with
    | false =>
      rw [ho] at HOP
      have hv : voteB s kind n who d = false := by simp [voteB, openB_eq, ho]
      have HV := Lib.hid hv
      clear ho hv
      rcases h1 with h1 | h1
      all_goals
        subst h1
        go_enter Try.func27, Try.ntmps27
        go_wp2_with fail
        go_quiet (fail)
        go_wp2_with (go_at_call 16; refine (HOP.out _).mono ?_; rintro e w' ⟨rfl, rfl⟩)
        go_ret
        exact vote_no HN.out (below_drewN HB.out _) HV.out
    | true =>
      rw [ho] at HOP
      have HO := Lib.hid ho
      clear ho
      by_cases a1 : who < 0
      · have hv : voteB s kind n who d = false := by simp [voteB]; omega
        have HV := Lib.hid hv
        clear hv
        rcases h1 with h1 | h1
        all_goals
          subst h1
          go_enter Try.func27, Try.ntmps27
          go_wp2_with fail
          go_quiet (fail)
          go_wp2_with (go_at_call 16; refine (HOP.out _).mono ?_; rintro e w' ⟨rfl, rfl⟩)
          go_ret
          exact vote_no HN.out (below_drewN HB.out _) HV.out
      · by_cases a2 : 9 < who
        · have hv : voteB s kind n who d = false := by simp [voteB]; omega
          have HV := Lib.hid hv
          clear hv
          rcases h1 with h1 | h1
          all_goals
            subst h1
            go_enter Try.func27, Try.ntmps27
            go_wp2_with fail
            go_quiet (fail)
            go_wp2_with (go_at_call 16; refine (HOP.out _).mono ?_; rintro e w' ⟨rfl, rfl⟩)
            go_ret
            exact vote_no HN.out (below_drewN HB.out _) HV.out
        · by_cases a3 : d < 0
          · have hv : voteB s kind n who d = false := by simp [voteB]; omega
            have HV := Lib.hid hv
            clear hv
            rcases h1 with h1 | h1
            all_goals
              subst h1
              go_enter Try.func27, Try.ntmps27
              go_wp2_with fail
              go_quiet (fail)
              go_wp2_with (go_at_call 16; refine (HOP.out _).mono ?_; rintro e w' ⟨rfl, rfl⟩)
              go_ret
              exact vote_no HN.out (below_drewN HB.out _) HV.out
          · have hv : voteB s kind n who d = true := by simp [voteB, openB_eq, HO.out, HG.out]; omega
            have HV := Lib.hid hv
            clear hv
            rcases h1 with h1 | h1
            all_goals
              subst h1
              go_enter Try.func27, Try.ntmps27
              go_wp2_with fail
              go_quiet (fail)
              go_wp2_with (go_at_call 16; refine (HOP.out _).mono ?_; rintro e w' ⟨rfl, rfl⟩)
              refine wp_region_tail 6 (by kernel_rfl) (by kernel_rfl) ?_
              simp only [List.take_succ_cons, List.take_zero, List.drop_succ_cons, List.drop_zero]
              repeat still_step
              refine wpStill_nil ?_
              refine wpList_update _ rfl _ _ _ 58 rfl kBal Try.underlying58 I.bv s.votes (HM.out nq).drew rfl (_, n, who) d rfl rfl ?_
              intro w1 hm1 ht1
              go_wp2
              go_ret
              exact vote_yes HN.out (below_drewN HB.out nq).drew hm1 ht1 HV.out
  · have e1 : (kind == 1) = false := by simp; omega
    have e2 : (kind == 2) = false := by simp; omega
    have hv : voteB s kind n who d = false := by simp [voteB]; omega
    have HV := Lib.hid hv
    clear h1 hv
    go_enter Try.func27, Try.ntmps27
    go_wp2_with fail
    go_quiet (fail)
    go_wp2_with fail
    go_ret
    exact vote_no HN.out (((Below.refl _ _).alloc (Nat.le_refl _) _).trans (below_drewN (Below.refl _ _) _)) HV.out

theorem vote_any (I : Ids) (s : St) (kind n who d : Int) (w : World) (h : SlotsAt w I s) (hi : Inv s) (hn : n ≤ 9223372036854775807) :
    Calls Try.prog 27 #[.pointer (some ⟨I.b, 0, none⟩), .int .i64 kind, .int .i64 n, .int .i64 who, .int .i64 d] w (Left w I (voteB s kind n who d) (vote s kind n who d)) := by
  have hlk := fun k => ((h.votes.alloc (.cells #[.int .i64 kind, .int .i64 n, .int .i64 who] 64)).drewN k).lookup kBal Try.underlying58 (zero3 _) (kind, n, who)
  simp only [bal] at hlk
  cases hg : aget s.votes (kind, n, who) with
  | none =>
    rw [hg] at hlk
    simp only [Option.map_none, Option.getD_none, Option.isSome_none] at hlk
    exact voted_none h hi hn hg hlk
  | some x =>
    rw [hg] at hlk
    simp only [i64, Option.map_some, Option.getD_some, Option.isSome_some] at hlk
    exact voted_some h hg hlk
end Go.Proofs.Ytelmgaaofighpaa
