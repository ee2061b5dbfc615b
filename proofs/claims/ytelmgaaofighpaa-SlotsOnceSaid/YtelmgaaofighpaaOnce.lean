/- SlotsOnce: the plain law, the walk. -/
import Derived.Test.YtelmgaaofighpaaArgs
import Derived.Deep.DeepCutAuto
namespace Go.Proofs.Ytelmgaaofighpaa
open Go.RowKit Go.My Go.My.Slots

/-! ### what a call does not change -/
theorem agetAbove {V : Type} (l : List (Int × V)) (low n : Int) : aget (above low l) n = if low < n then aget l n else none := by
  have := aget_filter (l := l) (fun k => decide (low < k)) n
  simpa [above] using this
theorem agetAboveV (l : List ((Int × Int × Int) × Int)) (low k n w : Int) : aget (aboveV low l) (k, n, w) = if low < n then aget l (k, n, w) else none := by
  have := aget_filter (l := l) (fun k => decide (low < k.2.1)) (k, n, w)
  simpa [aboveV] using this
theorem onceL_keeps {s : St} {m : List (Int × Int)} {k d n x : Int} (h : aget m n = some x) : aget (onceL s m k d) n = some x := by
  unfold onceL
  split
  · rename_i hb
    rw [aget_aput]
    split
    · rename_i e
      subst e
      unfold onceB at hb
      rw [h] at hb
      simp at hb
      rw [hb.2]
    · exact h
  · exact h

theorem not_open {s : St} (h : Inv s) {n : Int} (ho : openI s.low n = false) : aget s.acc n = none ∧ aget s.dec n = none := by
  constructor
  · rw [aget_none]
    rintro p hp rfl
    have := (h.acc p hp).1
    rw [openB_eq, ho] at this
    cases this
  · rw [aget_none]
    rintro p hp rfl
    have := (h.dec p hp).1
    rw [openB_eq, ho] at this
    cases this

theorem decided_stays {s : St} {m n kind who d v k x : Int} (ho : openI (doesS s m n kind who d v).low k = true) (h : aget s.dec k = some x) : aget (doesS s m n kind who d v).dec k = some x := by
  unfold doesS at *
  repeat' split
  all_goals (try exact h)
  · exact onceL_keeps h
  · unfold vote; split <;> exact h
  · unfold prove; split <;> exact h
  · unfold enter; split <;> exact h
  · rename_i h0 h1 h2 h4 h5 h6
    rw [if_neg h0, if_neg h1, if_neg h2, if_neg h4, if_neg h5, if_pos h6] at ho
    unfold cut at *
    split
    · rename_i hc
      rw [if_pos hc] at ho
      unfold openI cutTo at ho
      simp only [Bool.and_eq_true, decide_eq_true_eq] at ho
      show aget (above n s.dec) k = some x
      rw [agetAbove, if_pos ho.1]
      exact h
    · exact h
theorem accepted_stays {s : St} {m n kind who d v k x : Int} (ho : openI (doesS s m n kind who d v).low k = true) (hv : s.view = (doesS s m n kind who d v).view) (h : aget s.acc k = some x) : aget (doesS s m n kind who d v).acc k = some x := by
  unfold doesS at *
  repeat' split
  all_goals (try exact h)
  · exact onceL_keeps h
  · unfold vote; split <;> exact h
  · unfold prove; split <;> exact h
  · rename_i h0 h1 h2 h4 h5
    rw [if_neg h0, if_neg h1, if_neg h2, if_neg h4, if_pos h5] at hv
    unfold enter at *
    split
    · rename_i hb
      rw [if_pos hb] at hv
      unfold enterB at hb
      simp at hb hv
      omega
    · exact h
  · rename_i h0 h1 h2 h4 h5 h6
    rw [if_neg h0, if_neg h1, if_neg h2, if_neg h4, if_neg h5, if_pos h6] at ho
    unfold cut at *
    split
    · rename_i hc
      rw [if_pos hc] at ho
      unfold openI cutTo at ho
      simp only [Bool.and_eq_true, decide_eq_true_eq] at ho
      show aget (above n s.acc) k = some x
      rw [agetAbove, if_pos ho.1]
      exact h
    · exact h

theorem filter_one {l : List Int} (hn : l.Nodup) (p q : Int → Bool) (a : Int) (h : ∀ x ∈ l, x ≠ a → p x = q x) (hpq : p a = true → q a = true) :
    (l.filter p).length ≤ (l.filter q).length ∧ (l.filter q).length ≤ (l.filter p).length + 1 := by
  induction l with
  | nil => simp
  | cons y r ih =>
    obtain ⟨h1, h2⟩ := List.nodup_cons.1 hn
    by_cases hy : y = a
    · subst hy
      have e : r.filter p = r.filter q := List.filter_congr fun x hx => h x (by simp [hx]) (by rintro rfl; exact h1 hx)
      rw [List.filter_cons, List.filter_cons, e]
      cases hp : p y <;> cases hq : q y <;> simp_all
    · have := ih h2 (fun x hx => h x (by simp [hx]))
      rw [List.filter_cons, List.filter_cons, h y (by simp) hy]
      split
      · simp only [List.length_cons]; omega
      · exact this
theorem voted_grow {s : St} {m n kind who d v k2 d2 n2 : Int} (ho : openI (doesS s m n kind who d v).low n2 = true) (hv : s.view = (doesS s m n kind who d v).view) :
    (whoL s k2 n2 d2).length ≤ (whoL (doesS s m n kind who d v) k2 n2 d2).length ∧ (whoL (doesS s m n kind who d v) k2 n2 d2).length ≤ (whoL s k2 n2 d2).length + 1 := by
  have same : ∀ s' : St, (∀ w, aget s'.votes (k2, n2, w) = aget s.votes (k2, n2, w)) → whoL s' k2 n2 d2 = whoL s k2 n2 d2 := by
    intro s' hs
    unfold whoL
    simp only [hs]
  have le : ∀ s' : St, whoL s' k2 n2 d2 = whoL s k2 n2 d2 → (whoL s k2 n2 d2).length ≤ (whoL s' k2 n2 d2).length ∧ (whoL s' k2 n2 d2).length ≤ (whoL s k2 n2 d2).length + 1 := by
    intro s' e; rw [e]; omega
  unfold doesS at *
  repeat' split
  · exact le _ (same _ fun w => rfl)
  · exact le _ (same _ fun w => rfl)
  · unfold vote
    split
    · rename_i hb
      unfold voteB at hb
      simp only [Bool.and_eq_true, Option.isNone_iff_eq_none] at hb
      have hnone := hb.1.1.1.1.2
      unfold whoL
      refine filter_one (a := who) (by decide) _ _ ?_ ?_
      · intro x _ hx
        rw [aget_aput, if_neg (by intro e; injection e with _ e; injection e with _ e; exact hx e.symm)]
      · rw [aget_aput]
        split
        · rename_i e
          rw [← e, hnone]
          simp
        · exact fun h => h
    · exact le _ rfl
  · exact le _ (same _ fun w => by unfold prove; split <;> rfl)
  · rename_i h0 h1 h2 h4 h5
    rw [if_neg h0, if_neg h1, if_neg h2, if_neg h4, if_pos h5] at hv
    refine le _ (same _ fun w => ?_)
    unfold enter at *
    split
    · rename_i hb
      rw [if_pos hb] at hv
      unfold enterB at hb
      simp at hb hv
      omega
    · rfl
  · rename_i h0 h1 h2 h4 h5 h6
    rw [if_neg h0, if_neg h1, if_neg h2, if_neg h4, if_neg h5, if_pos h6] at ho
    refine le _ (same _ fun w => ?_)
    unfold cut at *
    split
    · rename_i hc
      rw [if_pos hc] at ho
      unfold openI cutTo at ho
      simp only [Bool.and_eq_true, decide_eq_true_eq] at ho
      show aget (aboveV n s.votes) (k2, n2, w) = _
      rw [agetAboveV, if_pos ho.1]
    · rfl
  · exact le _ rfl

theorem who_len (I : Ids) (s : St) (kind n d : Int) (w : World) (h : SlotsAt w I s) :
    Calls Try.prog 12 #[.pointer (some ⟨I.b, 0, none⟩), .int .i64 kind, .int .i64 n, .int .i64 d] w fun e w' => ∃ A c, e = .returned (.slice A (whoL s kind n d).length c) ∧ Below w.heap.size w w' := by
  refine (who_any I s kind n d w h).mono ?_
  rintro e w' ⟨v, rfl, hown, hb⟩
  rcases hown.2 with ⟨rfl, h0⟩ | ⟨g, cap, cur, rfl, _⟩
  · exact ⟨none, 0, by rw [h0], hb⟩
  · exact ⟨_, cap, rfl, hb⟩

def OnceRel (w : World) (I : Ids) (wr : World) : Prop := ∃ s, Inv s ∧ SlotsAt wr I s ∧ Below w.heap.size w wr

theorem once_long (a : Option Addr) (len : Nat) (cap : Nat) (n : Int) (w : World) (hl : 150 < len) :
    Calls Try.prog 4 #[.slice a len cap, .int .i64 n] w fun e w' => e = .returned (.bool true) ∧ Below w.heap.size w w' := by
  go_enter Try.func4, Try.ntmps4
  go_wp2_with (go_at_call 9; refine (head_any _).mono ?_; rintro e w1 ⟨rfl, hb1⟩; have B1 := Lib.hid hb1; clear hb1)
  refine (new_any _).mono ?_
  rintro e w2 ⟨I, rfl, hs, hb, hI⟩
  have B2 := Lib.hid hb
  clear hs hb hI
  go_wp2_with fail
  go_ret
  exact ⟨rfl, B1.out.trans (B2.out.mono B1.out.size)⟩

set_option maxRecDepth 100000 in
set_option maxHeartbeats 6400000 in
theorem once_law (a : Option Addr) (ops : List Op6) (cap : Nat) (n : Int) (w : World) (ha : OpsAt w a ops) (hl : ops.length ≤ 150) (hn : n ≤ 9223372036854775807) :
    Calls Try.prog 4 #[.slice a ops.length cap, .int .i64 n] w fun e w' => e = .returned (.bool true) ∧ Below w.heap.size w w' := by
  obtain ⟨len, hlen⟩ : ∃ len, len = ops.length := ⟨_, rfl⟩
  rw [← hlen] at hl ⊢
  have HA := Lib.hid ha
  have HL := Lib.hid hlen
  have HNN := Lib.hid hn
  clear ha hlen hn
  go_enter Try.func4, Try.ntmps4
  go_wp2_with (go_at_call 9; refine (head_any _).mono ?_; rintro e w1 ⟨rfl, hb1⟩; have B1 := Lib.hid hb1; clear hb1)
  refine (new_any _).mono ?_
  rintro e w2 ⟨I, rfl, hs, hb, hI⟩
  have H2 := Lib.hid hs
  have B2 := Lib.hid hb
  have HI := Lib.hid hI
  clear hs hb hI
  go_wp2_with fail
  go_loopw [7] (fun i wr => ∃ k : Nat, k ≤ len ∧ i = .int .i64 k ∧ OnceRel w I wr) (fun i _ => len - (intOf i).toNat)
  case atStart => exact ⟨0, by omega, rfl, st0, inv0, H2.out, B1.out.trans (B2.out.mono B1.out.size)⟩
  case round =>
    obtain ⟨k, hk, rfl, s, hi, hs, hb⟩ := hrel
    have HS := Lib.hid hs
    have HV := Lib.hid hi
    have HB := Lib.hid hb
    clear hs hi hb
    by_cases hlt : k < len
    · have hok : ops[k]? = some (ops[k]'(by rw [← HL.out]; exact hlt)) := List.getElem?_eq_getElem _
      obtain ⟨o, ho⟩ : ∃ o, o = ops[k]'(by rw [← HL.out]; exact hlt) := ⟨_, rfl⟩
      rw [← ho] at hok
      obtain ⟨hn, b, off, rfl, hbl, d0, d1, d2, d3, d4, d5⟩ := HA.out k o hok
      have HN := Lib.hid hn
      have HBL := Lib.hid hbl
      have cells : ∀ W : World, Below w.heap.size w W → (W.cell? ⟨b, off + k * 6, none⟩ = some (.int .i64 o.what) ∧ W.cell? ⟨b, off + k * 6 + 1, none⟩ = some (.int .i64 o.n) ∧ W.cell? ⟨b, off + k * 6 + 2, none⟩ = some (.int .i64 o.kind) ∧
          W.cell? ⟨b, off + k * 6 + 3, none⟩ = some (.int .i64 o.who) ∧ W.cell? ⟨b, off + k * 6 + 4, none⟩ = some (.int .i64 o.d) ∧ W.cell? ⟨b, off + k * 6 + 5, none⟩ = some (.int .i64 o.v)) := by
        intro W hW
        have ht : ∀ j, W.cell? ⟨b, j, none⟩ = w.cell? ⟨b, j, none⟩ := fun j => hW.cell hbl
        rw [ht, ht, ht, ht, ht, ht]
        exact ⟨d0, d1, d2, d3, d4, d5⟩
      have HC := Lib.hid cells
      clear hok ho hn hbl d0 d1 d2 d3 d4 d5 cells
      obtain ⟨s', hs'⟩ : ∃ s', s' = doesS s (msk o.what) o.n o.kind o.who o.d o.v := ⟨_, rfl⟩
      have HS' := Lib.hid hs'
      have HV' : Hid (Inv s') := by show Inv s'; rw [hs']; exact inv_does HV.out _ _ _ _ _ _
      have F1 : Hid (openI s'.low n = false → aget s'.acc n = none ∧ aget s'.dec n = none) := fun h => not_open HV'.out h
      have F2 : Hid (openI s'.low n = true → ∀ x, aget s.dec n = some x → aget s'.dec n = some x) := by
        show _ → _; rw [hs']; exact fun h x => decided_stays h
      have F3 : Hid (openI s'.low n = true → s.view = s'.view → ∀ x, aget s.acc n = some x → aget s'.acc n = some x) := by
        show _ → _; rw [hs']; exact fun h hv x => accepted_stays h hv
      have F4 : Hid (openI s'.low n = true → s.view = s'.view → (whoL s o.kind n o.d).length ≤ (whoL s' o.kind n o.d).length ∧ (whoL s' o.kind n o.d).length ≤ (whoL s o.kind n o.d).length + 1) := by
        show _ → _; rw [hs']; exact fun h hv => voted_grow h hv
      clear hs'
      go_wp2_with fail
      refine (accepted_any I s n _ HS.out).mono ?_
      rintro e w3 ⟨rfl, rfl⟩
      obtain ⟨A, hA⟩ : ∃ A, A = aget s.acc n := ⟨_, rfl⟩
      rw [← hA]
      have HA1 := Lib.hid hA
      clear hA
      go_wp2_with fail
      refine (decided_any I s n _ HS.out).mono ?_
      rintro e w3 ⟨rfl, rfl⟩
      obtain ⟨X, hX⟩ : ∃ X, X = aget s.dec n := ⟨_, rfl⟩
      rw [← hX]
      have HX1 := Lib.hid hX
      clear hX
      go_wp2_with fail
      refine (view_any I.b s.view _ HS.out.c1).mono ?_
      rintro e w3 ⟨rfl, rfl⟩
      go_wp2_with fail
      obtain ⟨c0, c1, c2, c3, c4, c5⟩ := HC.out _ HB.out
      refine wp_region_tail 12 (by kernel_rfl) (by kernel_rfl) ?_
      simp only [List.take_succ_cons, List.take_zero, List.drop_succ_cons, List.drop_zero]
      repeat still_step
      refine wpStill_nil ?_
      go_wp2_with fail
      have HSd : Hid (SlotsAt wr.drew I s) := HS.out.below (Below.refl _ _).drew
      have HBd : Hid (Below w.heap.size w wr.drew) := HB.out.drew
      refine (who_len I s o.kind n o.d _ HSd.out).mono ?_
      rintro e w4 ⟨A1, cp1, rfl, hb4⟩
      have HS4 : Hid (SlotsAt w4 I s) := HSd.out.below hb4
      have HB4 : Hid (Below w.heap.size w w4) := HBd.out.trans (hb4.mono HBd.out.size)
      clear hb4 c0 c1 c2 c3 c4 c5
      obtain ⟨m1, hm1⟩ : ∃ m1, m1 = (whoL s o.kind n o.d).length := ⟨_, rfl⟩
      rw [← hm1]
      have HM1 := Lib.hid hm1
      have hmb : m1 ≤ 10 := by rw [hm1]; exact whoK_len s o.kind n o.d 10
      clear hm1
      obtain ⟨c0, c1, c2, c3, c4, c5⟩ := HC.out _ HB4.out
      go_wp2_with fail
      refine (does_any I s o.what o.n o.kind o.who o.d o.v _ HS4.out HV.out HN.out).mono ?_
      rintro e w5 ⟨rfl, hs5, ht5⟩
      rw [← HS'.out] at hs5
      have HS5 := Lib.hid hs5
      have HB5 : Hid (Below w.heap.size w w5) := HB4.out.trans (ht5.below HB4.out.size (fun j hj => Nat.le_trans B1.out.size (HI.out j hj)))
      clear hs5 ht5 c0 c1 c2 c3 c4 c5
      go_wp2_with fail
      refine (accepted_any I s' n _ HS5.out).mono ?_
      rintro e w6 ⟨rfl, rfl⟩
      obtain ⟨B, hB⟩ : ∃ B, B = aget s'.acc n := ⟨_, rfl⟩
      rw [← hB]
      have HB1 := Lib.hid hB
      clear hB
      go_wp2_with fail
      refine (decided_any I s' n _ HS5.out).mono ?_
      rintro e w6 ⟨rfl, rfl⟩
      obtain ⟨Y, hY⟩ : ∃ Y, Y = aget s'.dec n := ⟨_, rfl⟩
      rw [← hY]
      have HY1 := Lib.hid hY
      clear hY
      go_wp2_with fail
      refine (open_any I.b s'.low n _ HS5.out.c0 HV'.out.low0 HNN.out).mono ?_
      rintro e w6 ⟨rfl, rfl⟩
      cases ho : openI s'.low n with
      | false =>
        have HF := Lib.hid (F1.out ho)
        clear ho
        rw [← HB1.out, ← HY1.out] at HF
        obtain ⟨rfl, rfl⟩ := HF.out
        go_wp2_with fail
        go_roundw
        case rel => exact ⟨k + 1, by omega, by go_num, s', HV'.out, HS5.out, HB5.out⟩
        case measure => simp [intOf]; omega
      | true =>
        have HO := Lib.hid ho
        clear ho
        have G2 : Hid (∀ x, X = some x → Y = some x) := by rw [HX1.out, HY1.out]; exact F2.out HO.out
        have G3 : Hid (s.view = s'.view → ∀ x, A = some x → B = some x) := by rw [HA1.out, HB1.out]; exact F3.out HO.out
        have G4 : Hid (s.view = s'.view → m1 ≤ (whoL s' o.kind n o.d).length ∧ (whoL s' o.kind n o.d).length ≤ m1 + 1) := by rw [HM1.out]; exact F4.out HO.out
        go_upto_region 18 with fail
        go_cut [119] (fun v wx => v = .bool false ∧ w5 = wx)
        case first =>
          cases X with
          | some x =>
            have hy := G2.out x rfl
            subst hy
            cases A with
            | none =>
              go_wp2_with fail
              go_meet
              exact ⟨rfl, rfl⟩
            | some z =>
              by_cases hv : s.view = s'.view
              · have hz := G3.out hv z rfl
                subst hz
                have hvb : (s.view == s'.view) = true := by simpa using hv
                clear hv
                go_wp2_with (go_at_call 15; refine (view_any I.b s'.view _ HS5.out.c1).mono ?_; rintro e w' ⟨rfl, rfl⟩)
                go_meet
                exact ⟨rfl, rfl⟩
              · have hvb : (s.view == s'.view) = false := by simpa using hv
                clear hv
                go_wp2_with (go_at_call 15; refine (view_any I.b s'.view _ HS5.out.c1).mono ?_; rintro e w' ⟨rfl, rfl⟩)
                go_meet
                exact ⟨rfl, rfl⟩
          | none =>
            cases A with
            | none =>
              go_wp2_with fail
              go_meet
              exact ⟨rfl, rfl⟩
            | some z =>
              by_cases hv : s.view = s'.view
              · have hz := G3.out hv z rfl
                subst hz
                have hvb : (s.view == s'.view) = true := by simpa using hv
                clear hv
                go_wp2_with (go_at_call 15; refine (view_any I.b s'.view _ HS5.out.c1).mono ?_; rintro e w' ⟨rfl, rfl⟩)
                go_meet
                exact ⟨rfl, rfl⟩
              · have hvb : (s.view == s'.view) = false := by simpa using hv
                clear hv
                go_wp2_with (go_at_call 15; refine (view_any I.b s'.view _ HS5.out.c1).mono ?_; rintro e w' ⟨rfl, rfl⟩)
                go_meet
                exact ⟨rfl, rfl⟩
        case rest =>
          obtain ⟨rfl, rfl⟩ := hcut
          obtain ⟨c0, c1, c2, c3, c4, c5⟩ := HC.out _ HB5.out
          go_wp2_with fail
          refine wp_region_tail 12 (by kernel_rfl) (by kernel_rfl) ?_
          simp only [List.take_succ_cons, List.take_zero, List.drop_succ_cons, List.drop_zero]
          repeat still_step
          refine wpStill_nil ?_
          go_wp2_with fail
          have HSe : Hid (SlotsAt w5.drew I s') := HS5.out.below (Below.refl _ _).drew
          have HBe : Hid (Below w.heap.size w w5.drew) := HB5.out.drew
          refine (who_len I s' o.kind n o.d _ HSe.out).mono ?_
          rintro e w7 ⟨A2, cp2, rfl, hb7⟩
          have HS7 : Hid (SlotsAt w7 I s') := HSe.out.below hb7
          have HB7 : Hid (Below w.heap.size w w7) := HBe.out.trans (hb7.mono HBe.out.size)
          clear hb7 c0 c1 c2 c3 c4 c5
          obtain ⟨m2, hm2⟩ : ∃ m2, m2 = (whoL s' o.kind n o.d).length := ⟨_, rfl⟩
          rw [← hm2] at G4 ⊢
          have hmb2 : m2 ≤ 10 := by rw [hm2]; exact whoK_len s' o.kind n o.d 10
          clear hm2
          by_cases hv : s.view = s'.view
          · obtain ⟨g1, g2⟩ := G4.out hv
            have hvb : (s.view == s'.view) = true := by simpa using hv
            clear hv
            go_wp2_with (go_at_call 15; refine (view_any I.b s'.view _ HS7.out.c1).mono ?_; rintro e w' ⟨rfl, rfl⟩)
            go_roundw
            case rel => exact ⟨k + 1, by omega, by go_num, s', HV'.out, HS7.out, HB7.out⟩
            case measure => simp [intOf]; omega
          · have hvb : (s.view == s'.view) = false := by simpa using hv
            clear hv
            go_wp2_with (go_at_call 15; refine (view_any I.b s'.view _ HS7.out.c1).mono ?_; rintro e w' ⟨rfl, rfl⟩)
            go_roundw
            case rel => exact ⟨k + 1, by omega, by go_num, s', HV'.out, HS7.out, HB7.out⟩
            case measure => simp [intOf]; omega
    · go_wp2_with fail
      go_ret
      exact ⟨rfl, HB.out⟩

namespace slotsOnceDone
theorem walk (a0 : Option Addr) (len0 cap0 : Nat) (ops : List Op6) (n : Int) (w : World) (hl : ops.length = len0) (ho : OpsAt w a0 ops) (wn : (Lit.int .i64 n).wf = true) :
    Calls Try.prog 4 #[.slice a0 len0 cap0, .int .i64 n] w fun e w' => e = .returned (.bool true) ∧ Below w.heap.size w w' := by
  subst hl
  rcases Nat.lt_or_ge 150 ops.length with h | h
  · exact once_long a0 _ cap0 n w h
  · exact once_law a0 ops cap0 n w ho h (max64 wn)
end slotsOnceDone
end Go.Proofs.Ytelmgaaofighpaa
