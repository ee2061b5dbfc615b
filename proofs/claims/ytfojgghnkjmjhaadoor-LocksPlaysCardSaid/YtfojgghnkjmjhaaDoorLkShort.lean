/- Locks: Unlock, Any; rows of keys told alike; whether it is too much. -/
import Derived.Test.YtfojgghnkjmjhaaDoorLkKeys
import Derived.BigRegion
namespace Go.Proofs.YtfojgghnkjmjhaaDoor.Locks
open Go.RowKit Go.My

/-! ### Unlock -/
structure UnRel (w1 : World) (b m : Nat) (L : LMap) (ks : List ByteArray) (a : Option Addr) (j : Nat) (wr : World) : Prop where
  at_ : LocksAt wr b m (delAll L (ks.take j))
  rows : StrsAt wr a ks
  wrote : Wrote [m] w1 wr
def UnLeft (w : World) (b m : Nat) (L : LMap) (who : Int) (e : Ending) (w' : World) : Prop := e = .returned (.tuple #[]) ∧ LocksAt w' b m (unlockL L who) ∧ Wrote [m] w w'
theorem rows_map {w : World} {b m : Nat} {L : LMap} {a : Option Addr} {ks : List ByteArray} (h : LocksAt w b m L) (hr : StrsAt w a ks) (w' : World) (hw : Wrote [m] w w') : StrsAt w' a ks := by
  refine LiesAt.wrote hr hw fun g o ha hne hm => ?_
  obtain ⟨x, l, rfl⟩ := List.exists_cons_of_ne_nil hne
  obtain ⟨g', o', ha', hg, hc⟩ := StrsAt.cell hr (i := 0) (x := x) rfl
  rw [ha] at ha'
  cases ha'
  have : g = m := by simpa using hm
  subst this
  obtain ⟨_, es, c, hh, _⟩ := h.map
  simp [World.cell?, hh] at hc
set_option maxRecDepth 100000 in
set_option maxHeartbeats 1600000 in
theorem unlock_any (b m : Nat) (L : LMap) (who : Int) (w : World) (h : LocksAt w b m L) (hF : Fine L) :
    Calls Tryd.prog 12 #[.pointer (some ⟨b, 0, none⟩), .int .i64 who] w (UnLeft w b m L who) := by
  have HK := Lib.hid (keys_any b m L who w h hF)
  have H := Lib.hid h
  have HF := Lib.hid hF
  have HL : Hid ((keysOf L who).length ≤ 128) := by
    show _ ≤ _
    rw [keysOf_len]
    exact Nat.le_trans (List.length_filter_le _ _) hF.small
  obtain ⟨ks, hks⟩ : ∃ ks, ks = keysOf L who := ⟨_, rfl⟩
  have HKS := Lib.hid hks
  rw [← hks] at HL
  clear h hF hks
  go_enter Tryd.func12, Tryd.ntmps12
  go_wp2_with fail
  refine HK.out.mono ?_
  rintro e w1 ⟨v, rfl, hrow, hb⟩
  rw [← HKS.out] at hrow
  obtain ⟨a, cap, rfl⟩ := row_slice hrow
  obtain ⟨n, hn⟩ : ∃ n, n = ks.length := ⟨_, rfl⟩
  have HN := Lib.hid hn
  have P0 : Hid (UnRel w1 b m L ks a 0 w1) := ⟨by rw [List.take_zero, delAll_nil]; exact H.out.below hb, row_liesAt (base := w.heap.size) (e := 9) (cap := cap) (by rw [show ks.flatMap strL = ks.map Value.string from flat_one _ _]; exact hrow) (fun _ => rfl) rfl, Wrote.refl _ _⟩
  have HB := Lib.hid hb
  have hnl : (n : Int) ≤ 128 := by have := HL.out; rw [hn]; omega
  rw [← hn]
  clear hrow hb hn HK
  go_wp2_with fail
  go_loopw [10] (fun i wr => ∃ j : Nat, j ≤ n ∧ i = .int .i64 j ∧ Hid (UnRel w1 b m L ks a j wr)) (fun i _ => n - (intOf i).toNat)
  case atStart => exact ⟨0, Nat.zero_le _, rfl, P0⟩
  case round =>
    clear P0
    obtain ⟨j, hj, rfl, HR⟩ := hrel
    by_cases hlt : j < n
    · obtain ⟨x, hx⟩ : ∃ x, ks[j]? = some x := ⟨_, List.getElem?_eq_getElem (by rw [← HN.out]; exact hlt)⟩
      obtain ⟨g, o, rfl, hg, c0⟩ := HR.out.rows.cell hx
      have k0 := HR.out.at_.c0
      have HX := Lib.hid hx
      have h0 : (0 : Int) ≤ (j : Int) := by omega
      have h1 : (j : Int) < (n : Int) := by omega
      clear hx hg
      go_wp2_with (at_delete; refine wpList_delete _ rfl _ _ 54 9 rfl kStr Tryd.underlying54 m _ HR.out.at_.map rfl x rfl ?_)
      intro w2 hm2 hw2
      have HNX : Hid (UnRel w1 b m L ks (some ⟨g, o, none⟩) (j + 1) w2) := by
        refine ⟨?_, rows_map HR.out.at_ HR.out.rows w2 hw2, HR.out.wrote.trans hw2⟩
        have e : ks.take (j + 1) = ks.take j ++ [x] := by rw [List.take_add_one, HX.out]; rfl
        rw [e, delAll_snoc]
        exact HR.out.at_.set hw2 hm2
      clear hm2 hw2 k0 c0
      go_wp2_with fail
      go_roundw
      case rel => exact ⟨j + 1, by omega, by go_num, HNX⟩
      case measure => simp [intOf]; omega
    · obtain rfl : j = n := by omega
      have HE : Hid (UnLeft w b m L who (.returned (.tuple #[])) wr) := by
        refine ⟨rfl, ?_, (Wrote.of_below HB.out).trans HR.out.wrote⟩
        have := HR.out.at_
        rw [List.take_of_length_le (by have := HN.out; omega), HKS.out, delAll_keys HF.out.nodup] at this
        exact this
      clear HR
      go_wp2_with fail
      go_end0
      exact HE.out

/-! ### Any -/
def inR (fr tk k : ByteArray) : Bool := !lessK k fr && (decide (tk.size = 0) || lessK k tk)
def anyK (L : LMap) (fr tk : ByteArray) : Bool := L.any fun p => inR fr tk p.1
theorem anyK_perm {L L' : LMap} (h : L.Perm L') (fr tk : ByteArray) : anyK L fr tk = anyK L' fr tk := by
  unfold anyK
  rw [Bool.eq_iff_iff, List.any_eq_true, List.any_eq_true]
  constructor
  · rintro ⟨p, hp, hq⟩
    exact ⟨p, h.mem_iff.1 hp, hq⟩
  · rintro ⟨p, hp, hq⟩
    exact ⟨p, h.mem_iff.2 hp, hq⟩
theorem anyK_snoc (L : LMap) (fr tk k : ByteArray) (c : Int) : anyK (L ++ [(k, c)]) fr tk = (anyK L fr tk || inR fr tk k) := by unfold anyK; rw [List.any_append]; simp
structure AnyRel (w : World) (m r : Nat) (L done todo : LMap) (wr : World) : Prop where
  range : RangeAt wr m r sK iV L done todo
  below : Below w.heap.size w wr
  rr : w.heap.size ≤ r
theorem AnyRel.next {w : World} {m r : Nat} {L done todo d2 t2 : LMap} {wr w2 : World} (h : AnyRel w m r L done todo wr) (hr : RangeAt w2 m r sK iV L d2 t2) (hw : Wrote [r] wr w2) : AnyRel w m r L d2 t2 w2 :=
  ⟨hr, h.below.trans (hw.below h.below.size fun k hk => by simp at hk; rw [hk]; exact h.rr), h.rr⟩
set_option maxRecDepth 100000 in
set_option maxHeartbeats 3200000 in
theorem any_any (b m : Nat) (L : LMap) (fr tk : ByteArray) (w : World) (h : LocksAt w b m L) :
    Calls Tryd.prog 14 #[.pointer (some ⟨b, 0, none⟩), .string fr, .string tk] w fun e w' => e = .returned (.bool (anyK L fr tk)) ∧ Below w.heap.size w w' := by
  have c0 := h.c0
  have H := Lib.hid h
  clear h
  go_enter Tryd.func14, Tryd.ntmps14
  go_wp2_with (at_range; refine wpList_range_map _ rfl _ 54 rfl Tryd.underlying54 m rfl H.out.map ?_; intro w1 hr1 hb1 hs1)
  have P0 : Hid (AnyRel w m w.heap.size L [] L w1) := ⟨hr1, hb1, Nat.le_refl _⟩
  obtain ⟨r, hr⟩ : ∃ r, r = w.heap.size := ⟨_, rfl⟩
  rw [← hr] at P0 ⊢
  clear hr1 hb1 hs1 hr c0
  go_frame
  go_loopw [7] (fun v wr => ∃ done todo q, v = .bool q ∧ Hid (q = anyK done fr tk) ∧ Hid (AnyRel w m r L done todo wr)) (fun _ wr => wr.rangeLeft m r)
  case atStart => exact ⟨[], L, false, rfl, rfl, P0⟩
  case round =>
    clear P0
    obtain ⟨done, todo, q, rfl, HQ, HR⟩ := hrel
    go_wp2_with (at_next; refine wpList_next_map _ rfl _ rfl m r rfl HR.out.range ?_ ?_)
    · intro ht
      have HT := Lib.hid ht
      clear ht
      go_wp2_with fail
      go_ret
      have hp := HR.out.range.perm
      rw [HT.out, List.append_nil] at hp
      have e : anyK L fr tk = q := by rw [HQ.out, anyK_perm hp]
      refine ⟨?_, HR.out.below⟩
      show Ending.returned (.bool q) = _
      rw [e]
    · intro k c t1 t2 w2 ht hr2 hw2 hs2 hen
      have HN := Lib.hid (HR.out.next hr2 hw2)
      have HLE : Hid (wr.rangeLeft m r = (t1 ++ t2).length + 1) := by
        show _ = _
        rw [HR.out.range.left_eq, ht]
        simp
        omega
      clear ht hr2 hw2 hs2
      simp only [sK, iV] at hen ⊢
      have HS := Lib.hid (anyK_snoc done fr tk k c)
      cases q with
      | true =>
        go_wp2_with fail
        go_roundw
        case rel => exact ⟨_, _, true, rfl, by show _ = _; rw [HS.out, ← HQ.out]; rfl, HN⟩
        case measure => rw [HLE.out, HN.out.range.left_eq]; omega
      | false =>
        have HI : Hid (inR fr tk k = (!Op.bytesLess k.toList fr.toList && (decide (tk.size = 0) || Op.bytesLess k.toList tk.toList))) := rfl
        cases h1 : Op.bytesLess k.toList fr.toList with
        | true =>
          have HV : Hid (false = anyK (done ++ [(k, c)]) fr tk) := by show _ = _; rw [HS.out, ← HQ.out, HI.out, h1]; rfl
          go_wp2_with fail
          go_roundw
          case rel => exact ⟨_, _, false, rfl, HV, HN⟩
          case measure => rw [HLE.out, HN.out.range.left_eq]; omega
        | false =>
          by_cases h0 : tk.size = 0
          · have HV : Hid (true = anyK (done ++ [(k, c)]) fr tk) := by show _ = _; rw [HS.out, ← HQ.out, HI.out, h1]; simp [h0]
            have e4 : (tk.toList == []) = true := by rw [size_empty h0, Lib.toList_data]; rfl
            have e5 : tk.toList.isEmpty = true := by rw [size_empty h0, Lib.toList_data]; rfl
            clear h0
            go_wp2_with fail
            go_roundw
            case rel => exact ⟨_, _, true, rfl, HV, HN⟩
            case measure => rw [HLE.out, HN.out.range.left_eq]; omega
          · have e4 := empty_ne h0
            have e5 : tk.toList.isEmpty = false := by rw [List.isEmpty_eq_false_iff]; intro e; rw [e] at e4; cases e4
            cases h2 : Op.bytesLess k.toList tk.toList with
            | true =>
              have HV : Hid (true = anyK (done ++ [(k, c)]) fr tk) := by show _ = _; rw [HS.out, ← HQ.out, HI.out, h1, h2]; simp
              clear h0
              go_wp2_with fail
              go_roundw
              case rel => exact ⟨_, _, true, rfl, HV, HN⟩
              case measure => rw [HLE.out, HN.out.range.left_eq]; omega
            | false =>
              have HV : Hid (false = anyK (done ++ [(k, c)]) fr tk) := by show _ = _; rw [HS.out, ← HQ.out, HI.out, h1, h2]; simp [h0]
              clear h0
              go_wp2_with fail
              go_roundw
              case rel => exact ⟨_, _, false, rfl, HV, HN⟩
              case measure => rw [HLE.out, HN.out.range.left_eq]; omega
end Go.Proofs.YtfojgghnkjmjhaaDoor.Locks
