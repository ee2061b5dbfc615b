/- The open numbers: New, Who. -/
import Derived.Test.YtelmgaaofighpaaAt
namespace Go.Proofs.Ytelmgaaofighpaa
open Go.RowKit Go.My Go.My.Slots

def Made (w : World) (e : Ending) (w' : World) : Prop := ∃ I : Ids, e = .returned (.pointer (some ⟨I.b, 0, none⟩)) ∧ SlotsAt w' I st0 ∧ Below w.heap.size w w' ∧ ∀ k ∈ I.list, w.heap.size ≤ k

theorem made_of (w : World) : Made w (.returned (.pointer (some ⟨w.heap.size + 1 + 1 + 1 + 1, 0, none⟩)))
    (((((w.alloc (.map #[] 0)).alloc (.map #[] 0)).alloc (.map #[] 0)).alloc (.map #[] 0)).alloc
      (.cells #[.int .i64 0, .int .i64 0, .map (some w.heap.size), .map (some (w.heap.size + 1)), .map (some (w.heap.size + 1 + 1)), .map (some (w.heap.size + 1 + 1 + 1))] 61)) := by
  refine ⟨⟨w.heap.size + 1 + 1 + 1 + 1, w.heap.size, w.heap.size + 1, w.heap.size + 1 + 1, w.heap.size + 1 + 1 + 1⟩, rfl, ⟨?_, ?_, ?_, ?_, ?_, ?_⟩, ?_, ?_⟩
  · have := heap_alloc_new ((((w.alloc (.map #[] 0)).alloc (.map #[] 0)).alloc (.map #[] 0)).alloc (.map #[] 0)) (.cells #[.int .i64 0, .int .i64 0, .map (some w.heap.size), .map (some (w.heap.size + 1)), .map (some (w.heap.size + 1 + 1)), .map (some (w.heap.size + 1 + 1 + 1))] 61)
    simpa [st0] using this
  · exact ((((MapAt.new w i64 i64).alloc _).alloc _).alloc _).alloc _
  · have := (((MapAt.new (w.alloc (.map #[] 0)) i64 i64).alloc (.map #[] 0)).alloc (.map #[] 0)).alloc (.cells #[.int .i64 0, .int .i64 0, .map (some w.heap.size), .map (some (w.heap.size + 1)), .map (some (w.heap.size + 1 + 1)), .map (some (w.heap.size + 1 + 1 + 1))] 61)
    simpa [st0] using this
  · have := ((MapAt.new ((w.alloc (.map #[] 0)).alloc (.map #[] 0)) bal i64).alloc (.map #[] 0)).alloc (.cells #[.int .i64 0, .int .i64 0, .map (some w.heap.size), .map (some (w.heap.size + 1)), .map (some (w.heap.size + 1 + 1)), .map (some (w.heap.size + 1 + 1 + 1))] 61)
    simpa [st0] using this
  · have := (MapAt.new (((w.alloc (.map #[] 0)).alloc (.map #[] 0)).alloc (.map #[] 0)) i64 prep).alloc (.cells #[.int .i64 0, .int .i64 0, .map (some w.heap.size), .map (some (w.heap.size + 1)), .map (some (w.heap.size + 1 + 1)), .map (some (w.heap.size + 1 + 1 + 1))] 61)
    simpa [st0] using this
  · simp [Ids.list]; omega
  · exact (((((Below.refl _ _).alloc (Nat.le_refl _) _).alloc (by simp) _).alloc (by simp; omega) _).alloc (by simp; omega) _).alloc (by simp; omega) _
  · intro k hk
    simp [Ids.list] at hk
    omega

set_option maxRecDepth 100000 in
theorem new_any (w : World) : Calls Try.prog 10 #[] w (Made w) := by
  have hmm := @run_makeMap Try.prog
  go_enter Try.func10, Try.ntmps10
  go_wp2
  go_ret
  exact made_of w

theorem int_info : (Try.prog.info? 3).map (fun i => (i.zero, i.size, i.bytes)) = some (some (.int .i64 0), 1, 8) := by kernel_rfl

/-- what Who makes: a slice of its own -/
def WhoLeft (w : World) (s : St) (kind n d : Int) (e : Ending) (w' : World) : Prop :=
  ∃ v, e = .returned v ∧ w'.ownsRow w.heap.size 3 1 v (whoL s kind n d).length ((whoL s kind n d).map i64) ∧ Below w.heap.size w w'

def whoK (s : St) (kind n d : Int) (k : Nat) : List Int := (nums.take k).filter fun w => decide (aget s.votes (kind, n, w) = some d)
theorem nums_take {k : Nat} (h : k < 10) : nums.take (k + 1) = nums.take k ++ [(k : Int)] := by
  have : k = 0 ∨ k = 1 ∨ k = 2 ∨ k = 3 ∨ k = 4 ∨ k = 5 ∨ k = 6 ∨ k = 7 ∨ k = 8 ∨ k = 9 := by omega
  rcases this with rfl | rfl | rfl | rfl | rfl | rfl | rfl | rfl | rfl | rfl <;> rfl
theorem whoK_yes {s : St} {kind n d : Int} {k : Nat} (h : k < 10) (hg : aget s.votes (kind, n, (k : Int)) = some d) : whoK s kind n d (k + 1) = whoK s kind n d k ++ [(k : Int)] := by
  unfold whoK
  rw [nums_take h, List.filter_append]
  simp [hg]
theorem whoK_no {s : St} {kind n d : Int} {k : Nat} (h : k < 10) (hg : aget s.votes (kind, n, (k : Int)) ≠ some d) : whoK s kind n d (k + 1) = whoK s kind n d k := by
  unfold whoK
  rw [nums_take h, List.filter_append]
  simp [hg]
theorem whoK_len (s : St) (kind n d : Int) (k : Nat) : (whoK s kind n d k).length ≤ 10 := by
  unfold whoK
  refine Nat.le_trans (List.length_filter_le _ _) (Nat.le_trans (List.length_take_le' _ _) ?_)
  simp [nums]
def WhoRel (w : World) (s : St) (kind n d : Int) (k : Nat) (v : Value) (wr : World) : Prop :=
  wr.ownsRow w.heap.size 3 1 v (whoK s kind n d k).length ((whoK s kind n d k).map i64) ∧ Below w.heap.size w wr

set_option maxRecDepth 100000 in
set_option maxHeartbeats 1600000 in
theorem who_any (I : Ids) (s : St) (kind n d : Int) (w : World) (h : SlotsAt w I s) :
    Calls Try.prog 12 #[.pointer (some ⟨I.b, 0, none⟩), .int .i64 kind, .int .i64 n, .int .i64 d] w (WhoLeft w s kind n d) := by
  obtain ⟨i0, hi0, hz0, hz1, hz2⟩ := info_parts int_info
  have HI := Lib.hid hi0
  have HZ := Lib.hid hz0
  have HS := Lib.hid hz1
  have HY := Lib.hid hz2
  have HN := Lib.hid h
  clear h hi0 hz0 hz1 hz2
  go_enter Try.func12, Try.ntmps12
  go_wp2_with fail
  go_loopw [9, 13] (fun v i wr => ∃ k : Nat, k ≤ 10 ∧ i = .int .i64 k ∧ WhoRel w s kind n d k v wr) (fun _ i _ => 10 - (intOf i).toNat)
  case atStart => exact ⟨0, by omega, rfl, World.ownsRow_nil _ _ _ _, Below.refl _ _⟩
  case round =>
    obtain ⟨k, hk, rfl, hrel⟩ := hrel
    have H := Lib.hid hrel
    clear hrel
    have c4 := (HN.out.below H.out.2).c4
    by_cases hlt : k < 10
    · have hlk := (HN.out.below H.out.2).votes.lookup kBal Try.underlying58 (zero3 _) (kind, n, (k : Int))
      cases hg : aget s.votes (kind, n, (k : Int)) with
      | none =>
        rw [hg] at hlk
        simp only [bal, Option.map_none, Option.getD_none, Option.isSome_none] at hlk
        have HG := Lib.hid hg
        clear hg
        go_wp2_with fail
        go_roundw
        case rel => exact ⟨k + 1, by omega, by go_num, by unfold WhoRel; rw [whoK_no hlt (by rw [HG.out]; simp)]; exact H.out⟩
        case measure => simp [intOf]; omega
      | some x =>
        rw [hg] at hlk
        simp only [bal, i64, Option.map_some, Option.getD_some, Option.isSome_some] at hlk
        have HG := Lib.hid hg
        clear hg
        by_cases hx : x = d
        · subst hx
          have hlen := whoK_len s kind n x k
          go_wp2_with (at_builtin; refine wpList_append_own _ rfl _ _ 30 rfl w.heap.size 3 i0 (.int .i64 0) 1 8 Try.underlying30 HI.out HZ.out HS.out HY.out rfl (by decide) _ _ _ rfl (H.out.1.alloc _) ⟨wr.heap.size, 0, none⟩ 1 1 [.int .i64 (k : Int)] rfl rfl ?c1 ?c2 ?c3 ?c4 ?c5 ?_)
          case c1 => exact cell_one_new _ _ _
          case c2 => simp [Value.oneCell']
          case c3 => unfold maxLen; omega
          case c4 => omega
          case c5 => have := H.out.2.size; simp; omega
          intro v1 w1 hown1 hgrow1 _
          have hrel1 : WhoRel w s kind n x (k + 1) v1 w1 := by
            have hb := ((Below.refl w.heap.size wr).alloc H.out.2.size (.cells #[.int .i64 (k : Int)] 3))
            refine ⟨?_, H.out.2.trans (hb.grown hgrow1 (Nat.le_trans H.out.2.size hb.size) (fun b hb => (H.out.1.lt b hb).1))⟩
            rw [whoK_yes hlt HG.out]
            simpa [i64] using hown1
          have HR := Lib.hid hrel1
          clear hrel1 hown1 hgrow1
          go_wp2_with fail
          go_roundw
          case rel => exact ⟨k + 1, by omega, by go_num, HR.out⟩
          case measure => simp [intOf]; omega
        · have hx1 : (x == d) = false := by simpa using hx
          have HX := Lib.hid hx
          clear hx
          go_wp2_with fail
          go_roundw
          case rel => exact ⟨k + 1, by omega, by go_num, by unfold WhoRel; rw [whoK_no hlt (by rw [HG.out]; simpa using HX.out)]; exact H.out⟩
          case measure => simp [intOf]; omega
    · go_wp2_with fail
      go_ret
      have hk10 : k = 10 := by omega
      subst hk10
      exact ⟨_, rfl, H.out.1, H.out.2⟩
end Go.Proofs.Ytelmgaaofighpaa
