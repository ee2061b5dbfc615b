/- The open numbers: Prove, Enter. -/
import Derived.Test.YtelmgaaofighpaaAt
import Derived.Deep.RegionWith
import Derived.Deep.RegionHeld3
import Derived.Deep.DeepCutAuto
namespace Go.Proofs.Ytelmgaaofighpaa
open Go.RowKit Go.My Go.My.Slots

theorem SlotsAt.setView {w : World} {I : Ids} {s : St} (h : SlotsAt w I s) (v : Int) : SlotsAt (w.setCell ⟨I.b, 1, none⟩ (.int .i64 v)) I { s with view := v } := by
  have hn := h.nd
  simp [Ids.list] at hn
  have k : ∀ b : Nat, b ≠ I.b → (w.setCell ⟨I.b, 1, none⟩ (.int .i64 v)).heap[b]? = w.heap[b]? := fun b hb => Below.heap_setCell _ _ _ _ hb
  refine ⟨?_, h.acc.keep (k _ (by omega)), h.dec.keep (k _ (by omega)), h.votes.keep (k _ (by omega)), h.proofs.keep (k _ (by omega)), h.nd⟩
  exact heap_setCell_same w I.b 1 _ _ _ h.blk
theorem enter_no {I : Ids} {s : St} {v : Int} {w : World} (h : SlotsAt w I s) (hv : enterB s v = false) : Left w I (enterB s v) (enter s v) (.returned (.bool false)) w := by
  unfold enter; rw [hv]; exact ⟨rfl, h, Wrote.refl _ _⟩

set_option maxRecDepth 100000 in
set_option maxHeartbeats 1600000 in
theorem enter_any (I : Ids) (s : St) (v : Int) (w : World) (h : SlotsAt w I s) :
    Calls Try.prog 25 #[.pointer (some ⟨I.b, 0, none⟩), .int .i64 v] w (Left w I (enterB s v) (enter s v)) := by
  have c1 := h.c1
  have c2 := h.c2
  have c4 := h.c4
  have f1 := h.fz 1
  have hlt := h.lt
  have HN := Lib.hid h
  clear h
  by_cases a1 : 1073741824 < v
  · have HV : Hid (enterB s v = false) := by show enterB s v = false; simp [enterB]; omega
    go_enter Try.func25, Try.ntmps25
    go_wp2_with fail
    go_ret
    exact enter_no HN.out HV.out
  · by_cases a2 : v ≤ s.view
    · have HV : Hid (enterB s v = false) := by show enterB s v = false; simp [enterB]; omega
      go_enter Try.func25, Try.ntmps25
      go_wp2_with fail
      go_ret
      exact enter_no HN.out HV.out
    · have HV : Hid (enterB s v = true) := by show enterB s v = true; simp [enterB]; omega
      have hnd := HN.out.nd
      simp [Ids.list] at hnd
      have hs0 : SlotsAt (w.setCell ⟨I.b, 1, none⟩ (.int .i64 v)) I { s with view := v } := HN.out.setView v
      have ht0 : Wrote I.list w (w.setCell ⟨I.b, 1, none⟩ (.int .i64 v)) := (Wrote.refl _ _).setCell (.inl (by simp [Ids.list])) _
      obtain ⟨w1, hr1, hm1, ht1⟩ := hs0.acc.clear (ty := 0) Try.underlying57
      have hs1 := hs0.setAcc ht1 hm1
      obtain ⟨w2, hr2, hm2, ht2⟩ := hs1.votes.clear (ty := 0) Try.underlying58
      have hs2 := hs1.setVotes ht2 hm2
      have c4' := hs1.c4
      have HE : Hid (Left w I (enterB s v) (enter s v) (.returned (.bool true)) w2) := by
        show Left _ _ _ _ _ _
        unfold enter
        rw [HV.out]
        exact ⟨rfl, hs2, (ht0.trans (ht1.mono (by simp [Ids.list]))).trans (ht2.mono (by simp [Ids.list]))⟩
      clear hs0 ht0 hm1 ht1 hs1 hm2 ht2 hs2 hnd
      go_enter Try.func25, Try.ntmps25
      go_wp2_with fail
      go_ret
      exact HE.out

def prepCells (p : Int × Int × Int) : Array Value := #[.int .i64 p.1, .int .i64 p.2.1, .int .i64 p.2.2, .int .i64 0, .int .i64 0, .slice none 0 0]
set_option maxRecDepth 100000 in
theorem atp_any (b : Nat) (l : List (Int × Int × Int × Int)) (n : Int) (w : World) (h : MapAt w b i64 prep l) :
    Calls Try.prog 43 #[.map (some b), .int .i64 n] w fun e w' => e = .returned (.tuple #[.agg (prepCells ((aget l n).getD (0, 0, 0))), .bool (aget l n).isSome]) ∧
      (w.alloc (.cells (prepCells ((aget l n).getD (0, 0, 0))) 44)).alloc (.cells (prepCells ((aget l n).getD (0, 0, 0))) 44) = w' := by
  have hlk := (h.alloc (.cells (prepCells (0, 0, 0)) 44)).lookup kInt Try.underlying59 (zero44 _) n
  cases hg : aget l n with
  | none =>
    rw [hg] at hlk
    simp only [i64, prep, prepCells, Option.map_none, Option.getD_none, Option.isSome_none] at hlk ⊢
    clear h hg
    go_enter Try.func43, Try.ntmps43
    go_wp2
    exact bodyPost_ret (v := .tuple #[.agg #[.int .i64 0, .int .i64 0, .int .i64 0, .int .i64 0, .int .i64 0, .slice none 0 0], .bool false]) (by simp [results, Try.results43, go_sem]) rfl ⟨rfl, rfl⟩
  | some v =>
    obtain ⟨v1, v2, v3⟩ := v
    rw [hg] at hlk
    simp only [i64, prep, prepCells, Option.map_some, Option.getD_some, Option.isSome_some] at hlk ⊢
    clear h hg
    go_enter Try.func43, Try.ntmps43
    go_wp2
    exact bodyPost_ret (v := .tuple #[.agg #[.int .i64 v1, .int .i64 v2, .int .i64 v3, .int .i64 0, .int .i64 0, .slice none 0 0], .bool true]) (by simp [results, Try.results43, go_sem]) rfl ⟨rfl, rfl⟩

def pv (n v d : Int) : Array Value := #[.int .i64 n, .int .i64 v, .int .i64 d, .int .i64 0, .int .i64 0, .slice none 0 0]
theorem atp_at (b : Nat) (l : List (Int × Int × Int × Int)) (n : Int) (w : World) (h : MapAt w b i64 prep l) (q1 q2 q3 : Int) (x : Bool) (hq : (aget l n).getD (0, 0, 0) = (q1, q2, q3)) (hx : (aget l n).isSome = x) :
    Calls Try.prog 43 #[.map (some b), .int .i64 n] w fun e w' => e = .returned (.tuple #[.agg #[.int .i64 q1, .int .i64 q2, .int .i64 q3, .int .i64 0, .int .i64 0, .slice none 0 0], .bool x]) ∧
      (w.alloc (.cells #[.int .i64 q1, .int .i64 q2, .int .i64 q3, .int .i64 0, .int .i64 0, .slice none 0 0] 44)).alloc (.cells #[.int .i64 q1, .int .i64 q2, .int .i64 q3, .int .i64 0, .int .i64 0, .slice none 0 0] 44) = w' := by
  have := atp_any b l n w h
  rw [hq, hx] at this
  exact this

/-- behind the look-up of the elder proof -/
def Elder (w : World) (n v d q1 q2 q3 : Int) (x : Bool) (s5 s6 : Value) (wx : World) : Prop :=
  ∃ g : Nat, s5 = .pointer (some ⟨g, 0, none⟩) ∧ s6 = .bool x ∧ wx.heap[g]? = some (.cells (pv q1 q2 q3) 44 (0, 0)) ∧ wx.heap[w.heap.size]? = some (.cells (pv n v d) 44 (0, 0)) ∧ Below w.heap.size w wx
theorem elder_of (w : World) (n v d q1 q2 q3 : Int) (x : Bool) (g : Nat) (hg : g = w.heap.size + 1 ∨ g = w.heap.size + 1 + 1 + 1) :
    Elder w n v d q1 q2 q3 x (.pointer (some ⟨g, 0, none⟩)) (.bool x) ((((w.alloc (.cells (pv n v d) 44)).alloc (.cells (pv q1 q2 q3) 44)).alloc (.cells (pv q1 q2 q3) 44)).alloc (.cells (pv q1 q2 q3) 44)).drew := by
  refine ⟨g, rfl, rfl, ?_, ?_, ?_⟩
  · rcases hg with rfl | rfl
    · show ((((w.heap.push (.cells (pv n v d) 44)).push (.cells (pv q1 q2 q3) 44)).push (.cells (pv q1 q2 q3) 44)).push (.cells (pv q1 q2 q3) 44))[w.heap.size + 1]? = _
      rw [Array.getElem?_push, if_neg (by simp), Array.getElem?_push, if_neg (by simp), Array.getElem?_push, if_pos (by simp)]
    · show ((((w.heap.push (.cells (pv n v d) 44)).push (.cells (pv q1 q2 q3) 44)).push (.cells (pv q1 q2 q3) 44)).push (.cells (pv q1 q2 q3) 44))[w.heap.size + 1 + 1 + 1]? = _
      rw [Array.getElem?_push, if_pos (by simp)]
  · show ((((w.heap.push (.cells (pv n v d) 44)).push (.cells (pv q1 q2 q3) 44)).push (.cells (pv q1 q2 q3) 44)).push (.cells (pv q1 q2 q3) 44))[w.heap.size]? = _
    rw [Array.getElem?_push, if_neg (by simp; omega), Array.getElem?_push, if_neg (by simp; omega), Array.getElem?_push, if_neg (by simp), Array.getElem?_push, if_pos rfl]
  · exact (((((Below.refl _ _).alloc (Nat.le_refl _) _).alloc (by simp) _).alloc (by simp; omega) _).alloc (by simp; omega) _).drew

theorem prove_no {I : Ids} {s : St} {n v d : Int} {w w' : World} (h : SlotsAt w I s) (hb : Below w.heap.size w w') (hv : proveB s n v = false) : Left w I (proveB s n v) (prove s n v d) (.returned (.bool false)) w' := by
  unfold prove; rw [hv]; exact ⟨rfl, h.below hb, Wrote.of_below hb⟩
theorem prove_yes {I : Ids} {s : St} {n v d : Int} {w w0 w' : World} (h : SlotsAt w I s) (hb : Below w.heap.size w w0) (hm : MapAt w' I.bp i64 prep (aput s.proofs n (n, v, d))) (ht : Wrote [I.bp] w0 w') (hv : proveB s n v = true) :
    Left w I (proveB s n v) (prove s n v d) (.returned (.bool true)) w' := by
  unfold prove; rw [hv]; exact ⟨rfl, (h.below hb).setProofs ht hm, (Wrote.of_below (S := I.list) hb).trans (ht.mono (by simp [Ids.list]))⟩
theorem proveB_eq (s : St) (n v q1 q2 q3 : Int) (x : Bool) (hq : (aget s.proofs n).getD (0, 0, 0) = (q1, q2, q3)) (hx : (aget s.proofs n).isSome = x) :
    proveB s n v = (openI s.low n && decide (0 ≤ v) && (!x || decide (q2 < v))) := by
  unfold proveB
  rw [openB_eq]
  cases hg : aget s.proofs n with
  | none => rw [hg] at hx; simp at hx; subst hx; simp
  | some y => rw [hg] at hx hq; simp at hx hq; subst hx; subst hq; simp

set_option maxRecDepth 100000 in
set_option maxHeartbeats 3200000 in
theorem prove_at (I : Ids) (s : St) (n v d : Int) (w : World) (h : SlotsAt w I s) (hi : Inv s) (hn : n ≤ 9223372036854775807) (q1 q2 q3 : Int) (x : Bool) (hq : (aget s.proofs n).getD (0, 0, 0) = (q1, q2, q3)) (hx : (aget s.proofs n).isSome = x) :
    Calls Try.prog 29 #[.pointer (some ⟨I.b, 0, none⟩), .agg #[.int .i64 n, .int .i64 v, .int .i64 d, .int .i64 0, .int .i64 0, .slice none 0 0]] w (Left w I (proveB s n v) (prove s n v d)) := by
  have c5 := h.c5
  have hlt := h.lt
  have HM := Lib.hid (h.proofs.alloc (.cells #[.int .i64 n, .int .i64 v, .int .i64 d, .int .i64 0, .int .i64 0, .slice none 0 0] 44))
  have HN := Lib.hid h
  have HQ := Lib.hid hq
  have HX := Lib.hid hx
  have HL := Lib.hid hn
  have HP := Lib.hid (proveB_eq s n v q1 q2 q3 x hq hx)
  clear h hq hx hn
  go_enter Try.func29, Try.ntmps29
  go_upto_region 1 with fail
  go_cut [5, 6] (fun s5 s6 wx => Elder w n v d q1 q2 q3 x s5 s6 wx)
  case first =>
    go_region_with (go_at_call 43; first | (refine (atp_at I.bp s.proofs n _ (HM.out.drew) q1 q2 q3 x HQ.out HX.out).mono ?_; rintro e w' ⟨rfl, rfl⟩) | (refine (atp_at I.bp s.proofs n _ (HM.out.drew.alloc _) q1 q2 q3 x HQ.out HX.out).mono ?_; rintro e w' ⟨rfl, rfl⟩))
    all_goals (go_wp2_with fail; go_meet; exact elder_of w n v d q1 q2 q3 x _ (by first | exact .inl rfl | exact .inr rfl))
  case rest =>
    clear c5
    obtain ⟨g, rfl, rfl, hg, hp, hb⟩ := hcut
    have g1 : wc.cell? ⟨g, 1, none⟩ = some (.int .i64 q2) := by rw [cell_of_row wc g 1 _ _ _ hg]; rfl
    have p0 : wc.cell? ⟨w.heap.size, 0, none⟩ = some (.int .i64 n) := by rw [cell_of_row wc _ 0 _ _ _ hp]; rfl
    have p1 : wc.cell? ⟨w.heap.size, 1, none⟩ = some (.int .i64 v) := by rw [cell_of_row wc _ 1 _ _ _ hp]; rfl
    have p2 : wc.cell? ⟨w.heap.size, 2, none⟩ = some (.int .i64 d) := by rw [cell_of_row wc _ 2 _ _ _ hp]; rfl
    have p3 : wc.cell? ⟨w.heap.size, 3, none⟩ = some (.int .i64 0) := by rw [cell_of_row wc _ 3 _ _ _ hp]; rfl
    have p4 : wc.cell? ⟨w.heap.size, 4, none⟩ = some (.int .i64 0) := by rw [cell_of_row wc _ 4 _ _ _ hp]; rfl
    have p5 : wc.cell? ⟨w.heap.size, 5, none⟩ = some (.slice none 0 0) := by rw [cell_of_row wc _ 5 _ _ _ hp]; rfl
    have HB := Lib.hid hb
    clear hg hp hb
    have c5 := (HN.out.below HB.out).c5
    have HC := Lib.hid (open_any I.b s.low n wc (HN.out.below HB.out).c0 hi.low0 HL.out)
    cases ho : openI s.low n with
    | false =>
      rw [ho] at HC
      have HV : Hid (proveB s n v = false) := by show proveB s n v = false; rw [HP.out, ho]; rfl
      clear ho
      go_wp2_with (go_at_call 16; refine HC.out.mono ?_; rintro e w' ⟨rfl, rfl⟩)
      go_ret
      exact prove_no HN.out HB.out HV.out
    | true =>
      rw [ho] at HC
      have HO := Lib.hid ho
      clear ho
      by_cases a1 : v < 0
      · have HV : Hid (proveB s n v = false) := by show proveB s n v = false; rw [HP.out, HO.out]; simp; omega
        go_wp2_with (go_at_call 16; refine HC.out.mono ?_; rintro e w' ⟨rfl, rfl⟩)
        go_ret
        exact prove_no HN.out HB.out HV.out
      · cases x with
        | true =>
          by_cases a2 : v ≤ q2
          · have HV : Hid (proveB s n v = false) := by show proveB s n v = false; rw [HP.out, HO.out]; simp; omega
            go_wp2_with (go_at_call 16; refine HC.out.mono ?_; rintro e w' ⟨rfl, rfl⟩)
            go_ret
            exact prove_no HN.out HB.out HV.out
          · have HV : Hid (proveB s n v = true) := by show proveB s n v = true; rw [HP.out, HO.out]; simp; omega
            go_wp2_with (go_at_call 16; refine HC.out.mono ?_; rintro e w' ⟨rfl, rfl⟩)
            refine wp_region_tail 7 (by kernel_rfl) (by kernel_rfl) ?_
            simp only [List.take_succ_cons, List.take_zero, List.drop_succ_cons, List.drop_zero]
            repeat still_step
            refine wpStill_nil ?_
            refine wpList_update _ rfl _ _ _ 59 rfl kInt Try.underlying59 I.bp s.proofs (HN.out.below HB.out).proofs.drew rfl n (n, v, d) rfl rfl ?_
            intro w1 hm1 ht1
            go_wp2
            go_ret
            exact prove_yes HN.out HB.out.drew hm1 ht1 HV.out
        | false =>
          have HV : Hid (proveB s n v = true) := by show proveB s n v = true; rw [HP.out, HO.out]; simp; omega
          go_wp2_with (go_at_call 16; refine HC.out.mono ?_; rintro e w' ⟨rfl, rfl⟩)
          refine wp_region_tail 7 (by kernel_rfl) (by kernel_rfl) ?_
          simp only [List.take_succ_cons, List.take_zero, List.drop_succ_cons, List.drop_zero]
          repeat still_step
          refine wpStill_nil ?_
          refine wpList_update _ rfl _ _ _ 59 rfl kInt Try.underlying59 I.bp s.proofs (HN.out.below HB.out).proofs.drew rfl n (n, v, d) rfl rfl ?_
          intro w1 hm1 ht1
          go_wp2
          go_ret
          exact prove_yes HN.out HB.out.drew hm1 ht1 HV.out

theorem prove_any (I : Ids) (s : St) (n v d : Int) (w : World) (h : SlotsAt w I s) (hi : Inv s) (hn : n ≤ 9223372036854775807) :
    Calls Try.prog 29 #[.pointer (some ⟨I.b, 0, none⟩), .agg #[.int .i64 n, .int .i64 v, .int .i64 d, .int .i64 0, .int .i64 0, .slice none 0 0]] w (Left w I (proveB s n v) (prove s n v d)) :=
  prove_at I s n v d w h hi hn _ _ _ _ rfl rfl
end Go.Proofs.Ytelmgaaofighpaa
