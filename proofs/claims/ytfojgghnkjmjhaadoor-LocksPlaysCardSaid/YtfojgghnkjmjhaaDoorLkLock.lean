/- Locks: Lock. -/
import Derived.Test.YtfojgghnkjmjhaaDoorLkShort
namespace Go.Proofs.YtfojgghnkjmjhaaDoor.Locks
open Go.RowKit Go.My

def errV : Option (Int × Int) → Value
  | none => .nilIface
  | some (n, at_) => wrapV at_ n
structure LkRel (w : World) (L : LMap) (who : Int) (keys : List ByteArray) (j : Nat) (v : Value) (wr : World) : Prop where
  row : wr.ownsRow w.heap.size 9 1 v (freshK L (keys.take j)).length ((freshK L (keys.take j)).map Value.string)
  below : Below w.heap.size w wr
  good : ∀ q, q < j → ∀ x, keys[q]? = some x → badK L who x = none
def LockLeft (w : World) (b m : Nat) (L : LMap) (who : Int) (keys : List ByteArray) (e : Ending) (w' : World) : Prop :=
  e = .returned (errV (lockE L who keys)) ∧ LocksAt w' b m (lockL L who keys) ∧ Wrote [m] w w'
section
variable {w wr w1 : World} {b m j : Nat} {L : LMap} {who n at_ : Int} {keys : List ByteArray} {v v2 : Value} {x : ByteArray}
theorem lock_no (h : LocksAt w b m L) (hb : Below w.heap.size w wr) (he : lockE L who keys = some (n, at_)) : LockLeft w b m L who keys (.returned (wrapV at_ n)) wr := by
  refine ⟨by rw [he]; rfl, ?_, Wrote.of_below hb⟩
  unfold lockL
  rw [if_neg (by rw [he]; simp)]
  exact h.below hb
theorem lock_bad (h : LocksAt w b m L) (hr : LkRel w L who keys j v wr) (h0 : 0 ≤ who) (hx : keys[j]? = some x) (hb : badK L who x = some n) : LockLeft w b m L who keys (.returned (wrapV (j : Int) n)) wr := by
  refine lock_no h hr.below ?_
  unfold lockE
  rw [if_neg (by omega), firstBad_at keys 0 j x n hr.good hx hb]
  simp
theorem take_snoc' (hx : keys[j]? = some x) : keys.take (j + 1) = keys.take j ++ [x] := by rw [List.take_add_one, hx]; rfl
theorem LkRel.same (hr : LkRel w L who keys j v wr) (hx : keys[j]? = some x) (hb : badK L who x = none) (hs : (aget L x).isSome = true ∨ hasK (freshK L (keys.take j)) x = true) : LkRel w L who keys (j + 1) v wr := by
  have e : freshK L (keys.take (j + 1)) = freshK L (keys.take j) := by
    rw [take_snoc' hx, freshK_snoc]
    unfold frS
    rw [if_pos (by rcases hs with h | h <;> simp [h])]
  refine ⟨by rw [e]; exact hr.row, hr.below, fun q hq y hy => ?_⟩
  by_cases e : q = j
  · subst e
    rw [hx] at hy
    cases hy
    exact hb
  · exact hr.good q (by omega) y hy
theorem LkRel.more (hr : LkRel w L who keys j v wr) (hx : keys[j]? = some x) (hb : badK L who x = none) (h1 : aget L x = none) (h2 : hasK (freshK L (keys.take j)) x = false) (o : Obj)
    (hown : w1.ownsRow w.heap.size 9 1 v2 ((freshK L (keys.take j)).length + 1) ((freshK L (keys.take j)).map Value.string ++ [.string x])) (hg : (wr.alloc o).grownBy w1 v.ownBlock) : LkRel w L who keys (j + 1) v2 w1 := by
  have e : freshK L (keys.take (j + 1)) = freshK L (keys.take j) ++ [x] := by
    rw [take_snoc' hx, freshK_snoc]
    unfold frS
    rw [if_neg (by simp [h1, h2])]
  have hw : Wrote v.ownBlock.toList (wr.alloc o) w1 := Wrote.of_grown hg
  refine ⟨by rw [e, List.length_append, List.map_append]; exact hown, hr.below.trans ((((Wrote.refl _ wr).alloc o).trans hw).below hr.below.size fun g hg => (row_block hr.row (by simpa using hg)).1), fun q hq y hy => ?_⟩
  by_cases e : q = j
  · subst e
    rw [hx] at hy
    cases hy
    exact hb
  · exact hr.good q (by omega) y hy
end
structure PtRel (w1 : World) (b m : Nat) (L : LMap) (who : Int) (f : List ByteArray) (a : Option Addr) (j : Nat) (wr : World) : Prop where
  at_ : LocksAt wr b m (putAll L (f.take j) who)
  rows : StrsAt wr a f
  wrote : Wrote [m] w1 wr
set_option maxRecDepth 100000 in
set_option maxHeartbeats 6400000 in
theorem lock_any (b m : Nat) (L : LMap) (who : Int) (a : Option Addr) (cap : Nat) (keys : List ByteArray) (w : World) (h : LocksAt w b m L) (hF : Fine L) (hk : StrsAt w a keys) (hl : keys.length ≤ 10000) :
    Calls Tryd.prog 7 #[.pointer (some ⟨b, 0, none⟩), .int .i64 who, .slice a keys.length cap] w (LockLeft w b m L who keys) := by
  obtain ⟨i0, hi0, hz0, hz1, hz2⟩ := info_parts str_info
  have HI := Lib.hid hi0
  have HZ := Lib.hid hz0
  have HS := Lib.hid hz1
  have HY := Lib.hid hz2
  have H := Lib.hid h
  have HF := Lib.hid hF
  have HK := Lib.hid hk
  obtain ⟨n, hn⟩ : ∃ n, n = keys.length := ⟨_, rfl⟩
  have HN := Lib.hid hn
  rw [← hn] at hl ⊢
  clear h hF hk hn hi0 hz0 hz1 hz2
  by_cases hw : who < 0
  · have HE : Hid (LockLeft w b m L who keys (.returned (wrapV (-1) 1)) w) := lock_no H.out (Below.refl _ _) (lockE_neg hw)
    have HW := Lib.hid (wrong_any 1 (-1) w rfl)
    go_enter Tryd.func7, Tryd.ntmps7
    go_wp2_with (go_at_call 23; refine HW.out.mono ?_; rintro e w' ⟨rfl, rfl⟩)
    go_ret
    exact HE.out
  · have hw0 : 0 ≤ who := by omega
    have HW0 := Lib.hid hw0
    clear hw0
    go_enter Tryd.func7, Tryd.ntmps7
    go_wp2_with fail
    have P0 : Hid (LkRel w L who keys 0 (.slice none 0 0) w) := ⟨by rw [List.take_zero]; exact World.ownsRow_nil _ _ _ _, Below.refl _ _, fun q hq => absurd hq (by omega)⟩
    go_loopw [7, 19] (fun v i wr => ∃ j : Nat, j ≤ n ∧ i = .int .i64 j ∧ Hid (LkRel w L who keys j v wr)) (fun _ i _ => n - (intOf i).toNat)
    case atStart => exact ⟨0, Nat.zero_le _, rfl, P0⟩
    case round =>
      clear P0
      obtain ⟨j, hj, rfl, HR⟩ := hrel
      have HLEN : Hid ((freshK L (keys.take j)).length ≤ j) := by
        show _ ≤ _
        have := (freshK_spec L (keys.take j)).2.1
        rw [List.length_take] at this
        omega
      by_cases hlt : j < n
      · obtain ⟨x, hx⟩ : ∃ x, keys[j]? = some x := ⟨_, List.getElem?_eq_getElem (by rw [← HN.out]; exact hlt)⟩
        obtain ⟨g, o, rfl, hg, d0⟩ := HK.out.cell hx
        have c0 : wr.cell? ⟨g, o + j, none⟩ = some (.string x) := (HR.out.below.cell (p := ⟨g, _, none⟩) hg).trans d0
        have k0 := (H.out.below HR.out.below).c0
        have hlk := (H.out.below HR.out.below).map.lookup kStr Tryd.underlying54 (zInt wr) x
        have HX := Lib.hid hx
        have h0 : (0 : Int) ≤ (j : Int) := by omega
        have h1 : (j : Int) < (n : Int) := by omega
        clear hx hg d0
        by_cases hsz : 16 < x.size
        · have HE : Hid (LockLeft w b m L who keys (.returned (wrapV (j : Int) 1)) wr) := lock_bad H.out HR.out HW0.out HX.out (by unfold badK; rw [if_pos hsz])
          have HW := Lib.hid (wrong_any 1 (j : Int) wr rfl)
          have hs1 : (16 : Int) < (x.size : Int) := by omega
          obtain ⟨z, hz⟩ : ∃ z : Int, z = (x.size : Int) := ⟨_, rfl⟩
          clear hsz
          cases hg : aget L x with
          | none =>
            rw [hg] at hlk
            simp only [sK, Option.map_none, Option.getD_none, Option.isSome_none] at hlk
            clear hg hz
            go_wp2_with (go_at_call 23; refine HW.out.mono ?_; rintro e w' ⟨rfl, rfl⟩)
            go_ret
            exact HE.out
          | some y =>
            rw [hg] at hlk
            simp only [sK, iV, Option.map_some, Option.getD_some, Option.isSome_some] at hlk
            clear hg hz
            go_wp2_with (go_at_call 23; refine HW.out.mono ?_; rintro e w' ⟨rfl, rfl⟩)
            go_ret
            exact HE.out
        · have hs1 : ¬ (16 : Int) < (x.size : Int) := by omega
          cases hg : aget L x with
          | some y =>
            rw [hg] at hlk
            simp only [sK, iV, Option.map_some, Option.getD_some, Option.isSome_some] at hlk
            by_cases hy : y = who
            · have HNX : Hid (LkRel w L who keys (j + 1) u7 wr) := HR.out.same HX.out (by unfold badK; rw [if_neg hsz, hg]; simp [hy]) (.inl (by rw [hg]; rfl))
              have hyb : (y != who) = false := by simp [hy]
              have hyc : (y == who) = true := by simp [hy]
              clear hg hy hsz
              go_wp2_with fail
              go_roundw
              case rel => exact ⟨j + 1, by omega, by go_num, HNX⟩
              case measure => simp [intOf]; omega
            · have HE : Hid (LockLeft w b m L who keys (.returned (wrapV (j : Int) 81)) wr) := lock_bad H.out HR.out HW0.out HX.out (by unfold badK; rw [if_neg hsz, hg]; simp [hy])
              have HW := Lib.hid (wrong_any 81 (j : Int) wr rfl)
              have hyb : (y != who) = true := by simp [hy]
              have hyc : (y == who) = false := by simp [hy]
              clear hg hy hsz
              go_wp2_with (go_at_call 23; refine HW.out.mono ?_; rintro e w' ⟨rfl, rfl⟩)
              go_ret
              exact HE.out
          | none =>
            rw [hg] at hlk
            simp only [sK, Option.map_none, Option.getD_none, Option.isSome_none] at hlk
            have HG := Lib.hid hg
            have HBD : Hid (badK L who x = none) := by show _ = _; unfold badK; rw [if_neg hsz, hg]
            obtain ⟨fa, fcap, hv⟩ := row_slice HR.out.row
            have HC := Lib.hid (contains_any fa fcap (freshK L (keys.take j)) x wr (row_liesAt (base := w.heap.size) (e := 9) (cap := fcap) (by rw [show (freshK L (keys.take j)).flatMap strL = (freshK L (keys.take j)).map Value.string from flat_one _ _, ← hv]; exact HR.out.row) (fun _ => rfl) rfl) (by have := HLEN.out; unfold maxLen; omega))
            rw [← hv] at HC
            clear hg hsz hv
            cases hh : hasK (freshK L (keys.take j)) x with
            | true =>
              have HNX : Hid (LkRel w L who keys (j + 1) u7 wr) := HR.out.same HX.out HBD.out (.inr hh)
              rw [hh] at HC
              clear hh
              go_wp2_with (go_at_call 24; refine HC.out.mono ?_; rintro e w' ⟨rfl, rfl⟩)
              go_roundw
              case rel => exact ⟨j + 1, by omega, by go_num, HNX⟩
              case measure => simp [intOf]; omega
            | false =>
              have HH := Lib.hid hh
              rw [hh] at HC
              clear hh
              have HROW := Lib.hid HR.out.row
              go_wp2_with (first | (go_at_call 24; refine HC.out.mono ?_; rintro e w' ⟨rfl, rfl⟩) | (at_builtin; refine wpList_append_own _ rfl _ _ 31 rfl w.heap.size 9 i0 (.string ⟨#[]⟩) 1 16 Tryd.underlying31 HI.out HZ.out HS.out HY.out rfl (by decide) _ _ _ rfl (HROW.out.alloc _) ⟨wr.heap.size, 0, none⟩ 1 1 [.string x] rfl rfl ?c1 ?c2 ?c3 ?c4 ?c5 ?_))
              case c1 => exact cell_one_new _ _ _
              case c2 => simp [Value.oneCell']
              case c3 => have := HLEN.out; unfold maxLen; omega
              case c4 => have := HLEN.out; omega
              case c5 => have := HR.out.below.size; simp; omega
              intro v1 w3 hown1 hgrow1 _
              have HNX : Hid (LkRel w L who keys (j + 1) v1 w3) := HR.out.more HX.out HBD.out HG.out HH.out _ hown1 hgrow1
              clear hown1 hgrow1
              go_wp2_with fail
              go_roundw
              case rel => exact ⟨j + 1, by omega, by go_num, HNX⟩
              case measure => simp [intOf]; omega
      · obtain rfl : j = n := by omega
        have HALL : Hid (firstBad L who keys 0 = none) := firstBad_none keys 0 fun x hx => by
          obtain ⟨q, hq⟩ := List.getElem?_of_mem hx
          exact HR.out.good q (by have := (List.getElem?_eq_some_iff.1 hq).1; have := HN.out; omega) x hq
        have hrow := HR.out.row
        rw [List.take_of_length_le (by have := HN.out; omega)] at hrow
        obtain ⟨fa, fcap, rfl⟩ := row_slice hrow
        have k0 := (H.out.below HR.out.below).c0
        have hr := lenMap_run (H.out.below HR.out.below).map (ty := 3) Tryd.underlying54
        have HFL : Hid ((freshK L keys).length ≤ j) := by rw [HN.out]; exact (freshK_spec L keys).2.1
        have HLE : Hid (lockE L who keys = if 128 < L.length + (freshK L keys).length then some (71, (L.length : Int)) else none) := by
          show _ = _
          have := HW0.out
          conv => lhs; unfold lockE
          rw [if_neg (by omega), HALL.out]
        obtain ⟨f, hf⟩ : ∃ f, f = freshK L keys := ⟨_, rfl⟩
        obtain ⟨fl, hfl⟩ : ∃ fl, fl = f.length := ⟨_, rfl⟩
        have hll : (L.length : Int) ≤ 128 := by have := HF.out.small; omega
        have hF0 := Lib.hid hf
        have hFL := Lib.hid hfl
        rw [← hf, ← hfl] at hrow HFL HLE
        rw [← hf, ← hfl]
        obtain ⟨ll, hLL⟩ : ∃ ll, ll = L.length := ⟨_, rfl⟩
        rw [← hLL] at hr hll HLE
        have hfl2 : (fl : Int) ≤ 10000 := by have := HFL.out; omega
        clear hf hfl
        have HROW := Lib.hid hrow
        clear hrow
        by_cases hfull : 128 < ll + fl
        · have HE : Hid (LockLeft w b m L who keys (.returned (wrapV (ll : Int) 71)) wr) := lock_no H.out HR.out.below (by rw [HLE.out, if_pos hfull])
          have HW := Lib.hid (wrong_any 71 (ll : Int) wr rfl)
          have hfi : (128 : Int) - (ll : Int) < (fl : Int) := by omega
          clear hfull HR hLL
          go_wp2_with (go_at_call 23; refine HW.out.mono ?_; rintro e w' ⟨rfl, rfl⟩)
          go_ret
          exact HE.out
        · have hfi : ¬ (128 : Int) - (ll : Int) < (fl : Int) := by omega
          have HOK : Hid (lockE L who keys = none) := by show _ = _; rw [HLE.out, if_neg hfull]
          have Q0 : Hid (PtRel wr b m L who f fa 0 wr) := ⟨by rw [List.take_zero]; exact H.out.below HR.out.below, row_liesAt (base := w.heap.size) (e := 9) (cap := fcap) (by rw [show f.flatMap strL = f.map Value.string from flat_one _ _]; exact hFL.out ▸ HROW.out) (fun _ => rfl) hFL.out, Wrote.refl _ _⟩
          have HB := Lib.hid HR.out.below
          clear hfull HR hLL HLE
          go_wp2_with fail
          obtain ⟨wo, rfl⟩ : ∃ wo : World, wo = wr := ⟨_, rfl⟩
          go_loopw [79] (fun i wr => ∃ q : Nat, q ≤ fl ∧ i = .int .i64 q ∧ Hid (PtRel wo b m L who f fa q wr)) (fun i _ => fl - (intOf i).toNat)
          case atStart => exact ⟨0, Nat.zero_le _, rfl, Q0⟩
          case round =>
            clear Q0 k0 hr
            obtain ⟨q, hq, rfl, HP⟩ := hrel
            by_cases hlq : q < fl
            · obtain ⟨x, hx⟩ : ∃ x, f[q]? = some x := ⟨_, List.getElem?_eq_getElem (by rw [← hFL.out]; exact hlq)⟩
              obtain ⟨g, o, rfl, hg, c0⟩ := HP.out.rows.cell hx
              have k0 := HP.out.at_.c0
              have HX := Lib.hid hx
              have h0 : (0 : Int) ≤ (q : Int) := by omega
              have h1 : (q : Int) < (fl : Int) := by omega
              clear hx hg
              go_wp2_with (at_mapUpdate; refine wpList_update _ rfl _ _ _ 54 rfl kStr Tryd.underlying54 m _ HP.out.at_.map rfl x who rfl rfl ?_)
              intro w2 hm2 hw2
              have HNX : Hid (PtRel wo b m L who f (some ⟨g, o, none⟩) (q + 1) w2) := by
                refine ⟨?_, rows_map HP.out.at_ HP.out.rows w2 hw2, HP.out.wrote.trans hw2⟩
                rw [take_snoc' HX.out, putAll_snoc]
                exact HP.out.at_.set hw2 hm2
              clear hm2 hw2 k0 c0
              go_wp2_with fail
              go_roundw
              case rel => exact ⟨q + 1, by omega, by go_num, HNX⟩
              case measure => simp [intOf]; omega
            · obtain rfl : q = fl := by omega
              have HE : Hid (LockLeft w b m L who keys (.returned .nilIface) wr) := by
                refine ⟨by rw [HOK.out]; rfl, ?_, (Wrote.of_below HB.out).trans HP.out.wrote⟩
                have := HP.out.at_
                rw [List.take_of_length_le (by have := hFL.out; omega), hF0.out] at this
                unfold lockL
                rw [if_pos HOK.out]
                exact this
              clear HP
              go_wp2_with fail
              go_ret
              exact HE.out
end Go.Proofs.YtfojgghnkjmjhaaDoor.Locks
