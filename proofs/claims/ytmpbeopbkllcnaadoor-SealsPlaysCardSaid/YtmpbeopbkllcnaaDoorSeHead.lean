/- Seals: Who, the live question. -/
import Derived.Test.YtmpbeopbkllcnaaDoorSeSeal
import Derived.Test.YtmpbeopbkllcnaaDoorGenl
namespace Go.Proofs.YtmpbeopbkllcnaaDoor.Seals
open Go.RowKit Go.My

def nums : List Int := [0, 1, 2, 3, 4, 5, 6, 7, 8, 9]
def whoP (l : Seals) (g d : Int) (i : Int) : Bool := decide (0 ≤ mem g i) && signedB l (mem g i) d
def whoL (l : Seals) (g d : Int) : List Int := nums.filter (whoP l g d)
def whoK (l : Seals) (g d : Int) (k : Nat) : List Int := (nums.take k).filter (whoP l g d)
theorem nums_take {k : Nat} (h : k < 10) : nums.take (k + 1) = nums.take k ++ [(k : Int)] := by
  have : k = 0 ∨ k = 1 ∨ k = 2 ∨ k = 3 ∨ k = 4 ∨ k = 5 ∨ k = 6 ∨ k = 7 ∨ k = 8 ∨ k = 9 := by omega
  rcases this with rfl | rfl | rfl | rfl | rfl | rfl | rfl | rfl | rfl | rfl <;> rfl
theorem whoK_yes {l : Seals} {g d : Int} {k : Nat} (h : k < 10) (hg : whoP l g d k = true) : whoK l g d (k + 1) = whoK l g d k ++ [(k : Int)] := by
  unfold whoK
  rw [nums_take h, List.filter_append]
  simp [hg]
theorem whoK_no {l : Seals} {g d : Int} {k : Nat} (h : k < 10) (hg : whoP l g d k = false) : whoK l g d (k + 1) = whoK l g d k := by
  unfold whoK
  rw [nums_take h, List.filter_append]
  simp [hg]
theorem whoK_len (l : Seals) (g d : Int) (k : Nat) : (whoK l g d k).length ≤ 10 := by
  unfold whoK
  refine Nat.le_trans (List.length_filter_le _ _) (Nat.le_trans (List.length_take_le' _ _) ?_)
  simp [nums]
theorem int_info : (Tryd.prog.info? 3).map (fun i => (i.zero, i.size, i.bytes)) = some (some (.int .i64 0), 1, 8) := by kernel_rfl
def i64 (n : Int) : Value := .int .i64 n
def WhoRel (w : World) (l : Seals) (g d : Int) (k : Nat) (v : Value) (wr : World) : Prop :=
  wr.ownsRow w.heap.size 3 1 v (whoK l g d k).length ((whoK l g d k).map i64) ∧ Below w.heap.size w wr
def WhoLeft (w : World) (l : Seals) (g d : Int) (e : Ending) (w' : World) : Prop :=
  ∃ v, e = .returned v ∧ w'.ownsRow w.heap.size 3 1 v (whoL l g d).length ((whoL l g d).map i64) ∧ Below w.heap.size w w'
theorem WhoRel.below {w : World} {l : Seals} {g d : Int} {k : Nat} {v : Value} {wr w' : World} (h : WhoRel w l g d k v wr) (hb : Below wr.heap.size wr w') : WhoRel w l g d k v w' :=
  ⟨h.1.kept (row := none) ⟨hb.os, hb.tape, hb.output, hb.size, fun k hk _ => hb.block k hk⟩ (by cases v.ownBlock <;> simp), h.2.trans (hb.mono h.2.size)⟩

set_option maxRecDepth 100000 in
set_option maxHeartbeats 1600000 in
theorem who_any (b m : Nat) (l : Seals) (g d : Int) (w : World) (h : SealsAt w b m l) :
    Calls Tryd.prog 15 #[.pointer (some ⟨b, 0, none⟩), .int .i64 g, .int .i64 d] w (WhoLeft w l g d) := by
  obtain ⟨i0, hi0, hz0, hz1, hz2⟩ := info_parts int_info
  have HI := Lib.hid hi0
  have HZ := Lib.hid hz0
  have HS := Lib.hid hz1
  have HY := Lib.hid hz2
  have HN := Lib.hid h
  clear h hi0 hz0 hz1 hz2
  go_enter Tryd.func15, Tryd.ntmps15
  go_wp2_with fail
  go_loopw [7, 10] (fun v i wr => ∃ k : Nat, k ≤ 10 ∧ i = .int .i64 k ∧ WhoRel w l g d k v wr) (fun _ i _ => 10 - (intOf i).toNat)
  case atStart => exact ⟨0, by omega, rfl, World.ownsRow_nil _ _ _ _, Below.refl _ _⟩
  case round =>
    obtain ⟨k, hk, rfl, hrel⟩ := hrel
    have H := Lib.hid hrel
    clear hrel
    by_cases hlt : k < 10
    · have HM := Lib.hid (member_any g (k : Int))
      obtain ⟨q, hq⟩ : ∃ q, q = mem g (k : Int) := ⟨_, rfl⟩
      have HP : Hid (whoP l g d k = (decide (0 ≤ q) && signedB l q d)) := by show _ = _; rw [hq]; rfl
      rw [← hq] at HM
      clear hq
      by_cases hq0 : q < 0
      · have HV : Hid (whoP l g d k = false) := by show _ = _; rw [HP.out]; simp; omega
        go_wp2_with (go_at_call 43; refine (HM.out _).mono ?_; rintro e w' ⟨rfl, rfl⟩)
        go_roundw
        case rel => exact ⟨k + 1, by omega, by go_num, by unfold WhoRel; rw [whoK_no hlt HV.out]; exact H.out⟩
        case measure => simp [intOf]; omega
      · have HSG := Lib.hid (signed_any b m l q d wr (HN.out.below H.out.2))
        cases hs : signedB l q d with
        | false =>
          have HV : Hid (whoP l g d k = false) := by show _ = _; rw [HP.out, hs]; simp
          rw [hs] at HSG
          clear hs
          go_wp2_with (first | (go_at_call 43; refine (HM.out _).mono ?_; rintro e w' ⟨rfl, rfl⟩) | (go_at_call 13; refine HSG.out.mono ?_; rintro e w1 ⟨rfl, hb⟩; have HB := Lib.hid hb; clear hb))
          go_roundw
          case rel => exact ⟨k + 1, by omega, by go_num, by unfold WhoRel; rw [whoK_no hlt HV.out]; exact H.out.below HB.out⟩
          case measure => simp [intOf]; omega
        | true =>
          have HV : Hid (whoP l g d k = true) := by show _ = _; rw [HP.out, hs]; simp; omega
          rw [hs] at HSG
          clear hs
          have hlen := whoK_len l g d k
          go_wp2_with (go_at_call 43; refine (HM.out _).mono ?_; rintro e w' ⟨rfl, rfl⟩)
          refine HSG.out.mono ?_
          rintro e w1 ⟨rfl, hb⟩
          have HB := Lib.hid hb
          have H1 := Lib.hid (H.out.below hb)
          clear hb
          go_wp2_with (at_builtin; refine wpList_append_own _ rfl _ _ 44 rfl w.heap.size 3 i0 (.int .i64 0) 1 8 Tryd.underlying44 HI.out HZ.out HS.out HY.out rfl (by decide) _ _ _ rfl (H1.out.1.alloc _) ⟨w1.heap.size, 0, none⟩ 1 1 [.int .i64 (k : Int)] rfl rfl ?c1 ?c2 ?c3 ?c4 ?c5 ?_)
          case c1 => exact cell_one_new _ _ _
          case c2 => simp [Value.oneCell']
          case c3 => unfold maxLen; omega
          case c4 => omega
          case c5 => have := H1.out.2.size; simp; omega
          intro v1 w2 hown1 hgrow1 _
          have hrel1 : WhoRel w l g d (k + 1) v1 w2 := by
            have hb := ((Below.refl w.heap.size w1).alloc H1.out.2.size (.cells #[.int .i64 (k : Int)] 3))
            refine ⟨?_, H1.out.2.trans (hb.grown hgrow1 (Nat.le_trans H1.out.2.size hb.size) (fun b hb => (H1.out.1.lt b hb).1))⟩
            rw [whoK_yes hlt HV.out]
            simpa [i64] using hown1
          have HR := Lib.hid hrel1
          clear hrel1 hown1 hgrow1
          go_wp2_with fail
          go_roundw
          case rel => exact ⟨k + 1, by omega, by go_num, HR.out⟩
          case measure => simp [intOf]; omega
    · go_wp2_with fail
      go_ret
      have hk10 : k = 10 := by omega
      subst hk10
      exact ⟨_, rfl, H.out.1, H.out.2⟩

def L1 : Seals := signS [] 135 4
theorem r1 : errS 135 (okB 135 4) = .nilIface := rfl
theorem r2 : errS 99 (okB 99 4) = wrapV ⟨#[115, 101, 97, 108, 115]⟩ 99 1 := rfl
theorem r3 : grp 135 = (2, 3) := by decide
theorem r4 : mem 2 3 = 135 := by decide
theorem r5 : signedB L1 135 4 = true := by decide
theorem r6 : signedB L1 135 5 = false := by decide
theorem r7 : whoL L1 2 4 = [3] := by decide
theorem r8 : L1.length = 1 := by decide
theorem r9 : signS L1 99 4 = L1 := by decide

theorem sg1 (b m : Nat) (w : World) (h : SealsAt w b m []) : Calls Tryd.prog 8 #[.pointer (some ⟨b, 0, none⟩), .int .i64 135, .int .i64 4] w fun e w' => e = .returned .nilIface ∧ SealsAt w' b m L1 ∧ Wrote [m] w w' :=
  (sign_any b m [] 135 4 w h (by decide) (by decide)).mono fun _ _ hl => ⟨by rw [hl.1, r1], hl.2⟩
theorem sg2 (b m : Nat) (w : World) (h : SealsAt w b m L1) : Calls Tryd.prog 8 #[.pointer (some ⟨b, 0, none⟩), .int .i64 99, .int .i64 4] w fun e w' => e = .returned (wrapV ⟨#[115, 101, 97, 108, 115]⟩ 99 1) ∧ SealsAt w' b m L1 ∧ Wrote [m] w w' :=
  (sign_any b m L1 99 4 w h (by decide) (by decide)).mono fun _ _ hl => ⟨by rw [hl.1, r2], by have := hl.2.1; rwa [r9] at this, hl.2.2⟩
theorem gp1 (w : World) : Calls Tryd.prog 42 #[.int .i64 135] w fun e w' => e = .returned (.tuple #[.int .i64 2, .int .i64 3]) ∧ w = w' := by
  have := group_any 135 w (by decide)
  rwa [r3] at this
theorem mb1 (w : World) : Calls Tryd.prog 43 #[.int .i64 2, .int .i64 3] w fun e w' => e = .returned (.int .i64 135) ∧ w = w' := by
  have := member_any 2 3 w
  rwa [r4] at this
theorem sd1 (b m : Nat) (w : World) (h : SealsAt w b m L1) : Calls Tryd.prog 13 #[.pointer (some ⟨b, 0, none⟩), .int .i64 135, .int .i64 4] w fun e w' => e = .returned (.bool true) ∧ Below w.heap.size w w' := by
  have := signed_any b m L1 135 4 w h
  rwa [r5] at this
theorem sd2 (b m : Nat) (w : World) (h : SealsAt w b m L1) : Calls Tryd.prog 13 #[.pointer (some ⟨b, 0, none⟩), .int .i64 135, .int .i64 5] w fun e w' => e = .returned (.bool false) ∧ Below w.heap.size w w' := by
  have := signed_any b m L1 135 5 w h
  rwa [r6] at this
theorem my1 (b m : Nat) (w : World) (h : SealsAt w b m L1) : Calls Tryd.prog 18 #[.pointer (some ⟨b, 0, none⟩)] w fun e w' => e = .returned (.int .i64 1) ∧ w = w' := by
  have := many_any b m L1 w h
  rwa [r8] at this
theorem wh1 (b m : Nat) (w : World) (h : SealsAt w b m L1) : Calls Tryd.prog 15 #[.pointer (some ⟨b, 0, none⟩), .int .i64 2, .int .i64 4] w
    fun e w' => ∃ g cap : Nat, e = .returned (.slice (some ⟨g, 0, none⟩) 1 cap) ∧ w'.cell? ⟨g, 0, none⟩ = some (.int .i64 3) ∧ g < w'.heap.size ∧ Below w.heap.size w w' := by
  refine (who_any b m L1 2 4 w h).mono ?_
  rintro e w' ⟨v, rfl, hown, hb⟩
  rw [r7] at hown
  obtain ⟨g, cap, rfl⟩ : ∃ g cap : Nat, v = .slice (some ⟨g, 0, none⟩) 1 cap := by
    rcases hown.2 with ⟨_, h0⟩ | ⟨g, cap, cur, hv, _⟩
    · simp at h0
    · exact ⟨g, cap, hv⟩
  have hc : w'.cell? ⟨g, 0, none⟩ = some (.int .i64 3) := by
    rw [hown.cellAt 0 (by simp)]
    rfl
  exact ⟨g, cap, rfl, hc, World.block_lt_of_cell? w' _ hc, hb⟩

set_option maxRecDepth 100000 in
set_option maxHeartbeats 3200000 in
theorem head_any (w : World) : Calls Tryd.prog 6 #[] w fun e w' => e = .returned (.bool true) ∧ Below w.heap.size w w' := by
  go_enter Tryd.func6, Tryd.ntmps6
  go_wp2_with (go_at_call 7; refine (new_any _).mono ?_; rintro e w1 ⟨b, m, rfl, hs1, hb1, hI⟩; have H1 := Lib.hid hs1; have B1 := Lib.hid hb1; have HI := Lib.hid hI; clear hs1 hb1 hI)
  refine (sg1 b m _ H1.out).mono ?_
  rintro e w2 ⟨rfl, hs, ht⟩
  have H2 := Lib.hid hs
  have T2 := Lib.hid ht
  clear hs ht
  go_wp2_with fail
  refine (gp1 _).mono ?_
  rintro e w3 ⟨rfl, rfl⟩
  go_wp2_with fail
  refine (sg2 b m _ H2.out).mono ?_
  rintro e w4 ⟨rfl, hs, ht⟩
  have H4 := Lib.hid hs
  have T4 := Lib.hid ht
  clear hs ht
  go_wp2_with fail
  refine (wh1 b m _ H4.out).mono ?_
  rintro e w5 ⟨g, cap, rfl, hc, hlt, hb⟩
  have H5 := Lib.hid (H4.out.below hb)
  have T5 := Lib.hid hb
  have HC := Lib.hid hc
  have HL := Lib.hid hlt
  clear hb hc hlt
  go_wp2_with (go_at_call 43; refine (mb1 _).mono ?_; rintro e w' ⟨rfl, rfl⟩)
  refine (sd1 b m _ H5.out).mono ?_
  rintro e w6 ⟨rfl, hb⟩
  have H6 := Lib.hid (H5.out.below hb)
  have T6 := Lib.hid hb
  clear hb
  go_wp2_with fail
  refine (sd2 b m _ H6.out).mono ?_
  rintro e w7 ⟨rfl, hb⟩
  have H7 := Lib.hid (H6.out.below hb)
  have T7 := Lib.hid hb
  clear hb
  go_wp2_with fail
  refine (text99 _).mono ?_
  rintro e w8 ⟨rfl, hb⟩
  have H8 := Lib.hid (H7.out.below hb)
  have T8 := Lib.hid (T6.out.trans ((T7.out.mono T6.out.size).trans (hb.mono (Nat.le_trans T6.out.size T7.out.size))))
  have hcell : w8.cell? ⟨g, 0, none⟩ = some (.int .i64 3) := by rw [T8.out.cell (p := ⟨g, 0, none⟩) HL.out]; exact HC.out
  have hstr : (seals99 == ⟨#[115, 101, 97, 108, 115, 32, 57, 57, 58, 32, 99, 111, 104, 111, 114, 116, 58, 32, 101, 114, 114, 111, 114, 32, 49]⟩) = true := by decide
  clear hb
  unfold seals99
  go_wp2_with (go_at_call 18; refine (my1 b m _ H8.out).mono ?_; rintro e w' ⟨rfl, rfl⟩)
  go_ret
  refine ⟨rfl, B1.out.trans ?_⟩
  refine ((T2.out.trans T4.out).below B1.out.size (fun k hk => by simp at hk; have := HI.out; omega)).trans ?_
  have s4 : w.heap.size ≤ w4.heap.size := Nat.le_trans B1.out.size (Nat.le_trans T2.out.size T4.out.size)
  exact (T5.out.mono s4).trans (T8.out.mono (Nat.le_trans s4 T5.out.size))
end Go.Proofs.YtmpbeopbkllcnaaDoor.Seals
