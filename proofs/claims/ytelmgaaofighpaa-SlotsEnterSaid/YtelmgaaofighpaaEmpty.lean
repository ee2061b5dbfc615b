/- The open numbers: Who where nobody voted. -/
import Derived.Test.YtelmgaaofighpaaPl
import Derived.Test.YtelmgaaofighpaaSame
import Derived.Test.YtelmgaaofighpaaVotes
namespace Go.Proofs.Ytelmgaaofighpaa
open Go.RowKit Go.My Go.My.Slots

set_option maxRecDepth 100000 in
set_option maxHeartbeats 800000 in
theorem who_empty (I : Ids) (s : St) (kind n d : Int) (w : World) (h : SlotsAt w I s) (hv : ∀ k : Int, aget s.votes (kind, n, k) = none) :
    Calls Try.prog 12 #[.pointer (some ⟨I.b, 0, none⟩), .int .i64 kind, .int .i64 n, .int .i64 d] w fun e w' => e = .returned (.slice none 0 0) ∧ w = w' := by
  have HN := Lib.hid h
  have HV := Lib.hid hv
  have c4 := h.c4
  clear h hv
  go_enter Try.func12, Try.ntmps12
  go_wp2_with fail
  go_loop [9, 13] (fun v i => ∃ k : Nat, k ≤ 10 ∧ i = .int .i64 k ∧ v = .slice none 0 0) (fun _ i => 10 - (intOf i).toNat)
  case atStart => exact ⟨0, by omega, rfl, rfl⟩
  case round =>
    obtain ⟨k, hk, rfl, rfl⟩ := hrel
    by_cases hlt : k < 10
    · have hlk := HN.out.votes.lookup kBal Try.underlying58 (zero3 _) (kind, n, (k : Int))
      rw [HV.out] at hlk
      simp only [bal, Option.map_none, Option.getD_none, Option.isSome_none] at hlk
      go_wp2_with fail
      go_round
      case rel => exact ⟨k + 1, by omega, by go_num, rfl⟩
      case measure => simp [intOf]; omega
    · go_wp2_with fail
      go_ret
      exact ⟨rfl, rfl⟩
theorem votes_none {s : St} (h : Inv s) {n : Int} (hn : openB s n = false) (kind k : Int) : aget s.votes (kind, n, k) = none := by
  cases hg : aget s.votes (kind, n, k) with
  | none => rfl
  | some x =>
    have := (h.votes _ (aget_some_mem hg)).1
    simp only at this
    rw [hn] at this
    cases this
end Go.Proofs.Ytelmgaaofighpaa
