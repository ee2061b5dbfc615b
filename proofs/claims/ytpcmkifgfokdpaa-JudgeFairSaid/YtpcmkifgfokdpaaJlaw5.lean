/- A judge: with fewer members there is no fault of members that was not there ahead. -/
import Derived.Test.YtpcmkifgfokdpaaJhead
import Derived.Deep.RegionWith
import Derived.Deep.DeepCutAuto
namespace Go.Proofs.Ytpcmkifgfokdpaa
open Go.RowKit Go.My Go.My.Model Go.Deep
theorem TrialIn.later {w W : World} {o g s : Sl} {T : List Tx} {G : List Int} {S : List Seen} (h : TrialIn w o g s T G S) (hb : Below w.heap.size w W) : TrialIn W o g s T G S :=
  ⟨h.on, h.oc, h.gn, h.sn, h.sc, h.sm, h.ord.below hb, h.groups.below hb, h.seen.below hb, fun x hx => ⟨(h.each x hx).1.below hb, (h.each x hx).2⟩, h.ft, h.fg, h.fs⟩
def trialA (o g s : Sl) : Value := .agg #[.slice o.a o.n o.cap, .slice g.a g.n g.cap, .slice s.a s.n s.cap]
theorem TrialIn.great {w : World} {o g s : Sl} {T : List Tx} {G : List Int} {S : List Seen} (h : TrialIn w o g s T G S) : Calls Try.prog 7 #[trialA o g s] w (GreatLeft w T G S) := by
  unfold trialA
  rw [h.on, h.gn, h.sn]
  exact great_7 T G S w _ _ _ _ _ _ (ord_far h.ord (Below.refl _ _) (by simp)) h.ft h.seen h.each h.fg h.fs
theorem TrialIn.judge {w : World} {o g s : Sl} {T : List Tx} {G : List Int} {S : List Seen} (h : TrialIn w o g s T G S) (hs : Small T G S) : Calls Try.prog 8 #[trialA o g s] w (FindLeft w (JudgeSpec T (onesOf G S))) := by
  obtain ⟨f1, f2, f3, f4⟩ := hs.few
  unfold trialA
  rw [h.on, h.gn, h.sn]
  exact judge_8 T G S w _ _ _ _ _ _ (ord_far h.ord (Below.refl _ _) (by simp)) f1 h.groups h.seen (fun x hx => ⟨(h.each x hx).1, f4 x hx⟩) f2 f3
theorem Small.none {T : List Tx} {G : List Int} {S : List Seen} (h : Small T G S) : Small T [] [] := by
  unfold Small at h ⊢
  simp [sw]
  omega
theorem TrialIn.none {w : World} {o g s : Sl} {T : List Tx} {G : List Int} {S : List Seen} (h : TrialIn w o g s T G S) : TrialIn w o ⟨Option.none, 0, 0⟩ ⟨Option.none, 0, 0⟩ T [] [] :=
  ⟨h.on, h.oc, rfl, rfl, Nat.le_refl _, Nat.zero_le _, h.ord, fun i x hi => by simp at hi, fun i x hi => by simp at hi, fun x hx => by simp at hx, h.ft, by simp, by simp⟩
theorem sw_le : ∀ (S : List Seen) (k : Nat), sw (S.take k) ≤ sw S
  | [], k => by simp
  | x :: S, 0 => by simp [sw]
  | x :: S, k + 1 => by have := sw_le S k; simp only [List.take_succ_cons, sw]; omega
theorem Small.take {T : List Tx} {G : List Int} {S : List Seen} (h : Small T G S) (k : Nat) : Small T G (S.take k) := by
  have := sw_le S k
  unfold Small at h ⊢
  omega
theorem TrialIn.take {w : World} {o g s : Sl} {T : List Tx} {G : List Int} {S : List Seen} (h : TrialIn w o g s T G S) {k : Nat} (hk : k ≤ s.n) : TrialIn w o g ⟨s.a, k, s.cap⟩ T G (S.take k) :=
  ⟨h.on, h.oc, h.gn, by have := h.sn; simp only [List.length_take]; omega, Nat.le_trans hk h.sc, h.sm, h.ord, h.groups, h.seen.take k, fun x hx => h.each x (List.mem_of_mem_take hx), h.ft, h.fg, by have := h.fs; have := List.length_take_le k S; simp only [List.length_take]; omega⟩
def Elder (wr : World) (v : Verd) (x : Value) (W : World) : Prop := ∃ g, x = .pointer (some ⟨g, 0, none⟩) ∧ W.heap[g]? = some (.cells #[.int .i64 v.fault, .int .i64 v.a, .int .i64 v.b] 31 (0, 0)) ∧ Below wr.heap.size wr W
theorem elder_new {wr w' : World} {f a b : Int} (hb : Below wr.drew.heap.size wr.drew w') : Elder wr ⟨f, a, b⟩ (.pointer (some ⟨w'.heap.size, 0, none⟩)) (w'.alloc (.cells #[.int .i64 f, .int .i64 a, .int .i64 b] 31)) := by
  have h : Below wr.heap.size wr w' := (Below.refl _ wr).drew.trans hb
  exact ⟨_, rfl, heap_alloc_new w' _, h.alloc h.size _⟩
theorem elder_old {wr w' : World} {f a b : Int} (hb : Below wr.heap.size wr w') (hrow : w'.heap[wr.heap.size]? = some (.cells #[.int .i64 0, .int .i64 0, .int .i64 0] 31 (0, 0))) :
    Elder wr ⟨f, a, b⟩ (.pointer (some ⟨wr.heap.size, 0, none⟩)) (((w'.setCell ⟨wr.heap.size, 0, none⟩ (.int .i64 f)).setCell ⟨wr.heap.size, 1, none⟩ (.int .i64 a)).setCell ⟨wr.heap.size, 2, none⟩ (.int .i64 b)) := by
  have h1 := heap_setCell_same _ wr.heap.size 0 _ _ (.int .i64 f) hrow
  have h2 := heap_setCell_same _ wr.heap.size 1 _ _ (.int .i64 a) h1
  have h3 := heap_setCell_same _ wr.heap.size 2 _ _ (.int .i64 b) h2
  have hw := (((Wrote.of_below (S := []) hb).setCell (p := ⟨wr.heap.size, 0, none⟩) (.inr (Nat.le_refl _)) (.int .i64 f)).setCell (p := ⟨wr.heap.size, 1, none⟩) (.inr (Nat.le_refl _)) (.int .i64 a)).setCell (p := ⟨wr.heap.size, 2, none⟩) (.inr (Nat.le_refl _)) (.int .i64 b)
  exact ⟨_, rfl, h3, hw.below (Nat.le_refl _) (by simp)⟩
set_option maxRecDepth 100000 in
set_option maxHeartbeats 6400000 in
theorem fewer_5 (o g s : Sl) (T : List Tx) (G : List Int) (S : List Seen) (u : Int) (w : World) (ht : TrialIn w o g s T G S) (hu0 : 0 ≤ u) (hu1 : u ≤ 255) : Calls Try.prog 5 #[trialA o g s, .int .u8 u] w (BoolLeft w true) := by
  have HT := Lib.hid ht
  obtain ⟨oa, on, oc⟩ := o
  obtain ⟨ga, gn, gc⟩ := g
  obtain ⟨sa, sn, sc⟩ := s
  have HSN := Lib.hid ht.sn
  have hsn8 := ht.fs
  have hsc := ht.sc
  have hsm := ht.sm
  rw [← ht.sn] at hsn8
  simp only at hsn8 hsc hsm HSN
  have hsn9 : (sn : Int) ≤ 70368744177664 := by omega
  have HGR : Hid (∀ W, Below w.heap.size w W → Calls Try.prog 7 #[.agg #[.slice oa on oc, .slice ga gn gc, .slice sa sn sc]] W (GreatLeft W T G S)) := fun W hb => (HT.out.later hb).great
  have HJ : Hid (∀ W, Below w.heap.size w W → Small T G S → Calls Try.prog 8 #[.agg #[.slice oa on oc, .slice ga gn gc, .slice sa sn sc]] W (FindLeft W (JudgeSpec T (onesOf G S)))) := fun W hb h => (HT.out.later hb).judge h
  have HJ0 : Hid (∀ W, Below w.heap.size w W → Small T G S → Calls Try.prog 8 #[.agg #[.slice oa on oc, .slice none 0 0, .slice none 0 0]] W (FindLeft W (JudgeSpec T []))) := fun W hb h => (HT.out.later hb).none.judge h.none
  have HJ3 : Hid (∀ W k, Below w.heap.size w W → Small T G S → k ≤ sn → Calls Try.prog 8 #[.agg #[.slice oa on oc, .slice ga gn gc, .slice sa k sc]] W (FindLeft W (JudgeSpec T (onesOf G (S.take k))))) := fun W k hb h hk => ((HT.out.later hb).take hk).judge (h.take k)
  clear ht hsn8
  obtain ⟨W0, hW0⟩ : ∃ W0, W0 = w.alloc (.cells #[.slice oa on oc, .slice ga gn gc, .slice sa sn sc] 26) := ⟨_, rfl⟩
  have HB0 : Hid (Below w.heap.size w W0) := by show Below _ _ _; rw [hW0]; exact (Below.refl _ w).alloc (Nat.le_refl _) _
  have HT0 : Hid (W0.heap[w.heap.size]? = some (.cells #[.slice oa on oc, .slice ga gn gc, .slice sa sn sc] 26 (0, 0))) := by show _ = _; rw [hW0]; exact heap_alloc_new w _
  have HPT : Hid (∀ W, Below W0.heap.size W0 W → W.cell? ⟨w.heap.size, 0, none⟩ = some (.slice oa on oc) ∧ W.cell? ⟨w.heap.size, 1, none⟩ = some (.slice ga gn gc) ∧ W.cell? ⟨w.heap.size, 2, none⟩ = some (.slice sa sn sc) ∧ w.heap.size < W.heap.size) := fun W hb => by
    have h := (hb.block _ (lt_of_heap HT0.out)).trans HT0.out
    exact ⟨by rw [cell_of_row _ _ _ _ _ _ h]; rfl, by rw [cell_of_row _ _ _ _ _ _ h]; rfl, by rw [cell_of_row _ _ _ _ _ _ h]; rfl, lt_of_heap h⟩
  unfold trialA
  simp only
  go_enter Try.func5, Try.ntmps5
  go_wp2_with fail
  rw [← hW0]
  clear hW0
  refine (head_6 W0).mono ?_
  rintro e w1 ⟨rfl, hb1⟩
  have HB1 := Lib.hid hb1
  obtain ⟨q0, q1, q2, lp⟩ := HPT.out _ HB1.out
  clear hb1
  go_wp2_with fail
  refine (HGR.out w1 (HB0.out.trans (HB1.out.mono HB0.out.size))).mono ?_
  rintro e w2 ⟨gr, rfl, hg, hb2⟩
  have HB2 : Hid (Below W0.heap.size W0 w2) := HB1.out.trans (hb2.mono HB1.out.size)
  have HBw2 : Hid (Below w.heap.size w w2) := HB0.out.trans (HB2.out.mono HB0.out.size)
  clear hb2 q0 q1 q2 lp
  cases gr with
  | true =>
    clear hg
    go_wp2_with fail
    go_ret
    exact ⟨rfl, HBw2.out⟩
  | false =>
    have HSM : Hid (Small T G S) := hg rfl
    obtain ⟨q0, q1, q2, lp⟩ := HPT.out _ HB2.out
    clear hg
    go_wp2_with fail
    refine (HJ.out w2 HBw2.out HSM.out).mono ?_
    rintro e w3 ⟨v, rfl, hb3, hs3⟩
    have HB3 : Hid (Below W0.heap.size W0 w3) := HB2.out.trans (hb3.mono HB2.out.size)
    have HV := Lib.hid hs3
    obtain ⟨f, a, b⟩ := v
    unfold verA
    simp only
    clear hb3 hs3 q0 q1 q2 lp
    obtain ⟨W4, hW4⟩ : ∃ W4, W4 = w3.alloc (.cells #[.int .i64 f, .int .i64 a, .int .i64 b] 31) := ⟨_, rfl⟩
    have HB4 : Hid (Below W0.heap.size W0 W4) := by show Below _ _ _; rw [hW4]; exact HB3.out.alloc HB3.out.size _
    have HX4 : Hid (W4.heap[w3.heap.size]? = some (.cells #[.int .i64 f, .int .i64 a, .int .i64 b] 31 (0, 0))) := by show _ = _; rw [hW4]; exact heap_alloc_new w3 _
    obtain ⟨q0, q1, q2, lp⟩ := HPT.out _ HB3.out
    go_wp2_with fail
    obtain ⟨vb, hvb⟩ : ∃ z, z = w3.heap.size := ⟨_, rfl⟩
    rw [← hW4, ← hvb]
    rw [← hvb] at HX4
    clear hW4 hvb q0 q1 q2 lp
    have HBw4 : Hid (Below w.heap.size w W4) := HB0.out.trans (HB4.out.mono HB0.out.size)
    refine (HJ0.out W4 HBw4.out HSM.out).mono ?_
    rintro e w5 ⟨v2, rfl, hb5, hs5⟩
    have HB5 : Hid (Below W0.heap.size W0 w5) := HB4.out.trans (hb5.mono HB4.out.size)
    have HX5 : Hid (w5.heap[vb]? = some (.cells #[.int .i64 f, .int .i64 a, .int .i64 b] 31 (0, 0))) := (hb5.block _ (lt_of_heap HX4.out)).trans HX4.out
    have HV2 := Lib.hid hs5
    obtain ⟨f2, a2, b2⟩ := v2
    unfold verA
    simp only
    have HBw5 : Hid (Below w.heap.size w w5) := HB0.out.trans (HB5.out.mono HB0.out.size)
    have HBA : Hid (∀ o, Below w.heap.size w (w5.alloc o)) := fun o => HBw5.out.alloc HBw5.out.size _
    have x0 : w5.cell? ⟨vb, 0, none⟩ = some (.int .i64 f) := by rw [cell_of_row _ _ _ _ _ _ HX5.out]; rfl
    have lvb := lt_of_heap HX5.out
    obtain ⟨q0, q1, q2, lp⟩ := HPT.out _ HB5.out
    clear hb5 hs5
    by_cases hread : fitsN T < T.length
    · obtain rfl : f = 1 := (judge_fault HV.out).1.2 hread
      obtain rfl : f2 = 1 := (judge_fault HV2.out).1.2 hread
      clear hread
      by_cases hn0 : sn = 0
      · subst hn0
        go_wp2_with fail
        go_ret
        exact ⟨rfl, HBA.out _⟩
      · have hn1 : ((sn : Int) == 0) = false := by simp; omega
        clear hn0
        go_wp2_with fail
        go_ret
        exact ⟨rfl, HBA.out _⟩
    · have hfit : fitsN T = T.length := by have := fits_le T; omega
      obtain ⟨rfl, rfl, rfl⟩ : f2 = 0 ∧ a2 = 0 ∧ b2 = 0 := by
        have h := judge_clean (clean_nil hfit) HV2.out
        injection h with h1 h2 h3
        exact ⟨h1, h2, h3⟩
      have hf1 : ¬ f = 1 := fun h => hread ((judge_fault HV.out).1.1 h)
      have hf1' : (f == 1) = false := by simpa using hf1
      clear hread hfit hf1
      by_cases hn0 : sn = 0
      · subst hn0
        go_wp2_with fail
        go_ret
        exact ⟨rfl, HBA.out _⟩
      · have hn1 : ((sn : Int) == 0) = false := by simp; omega
        by_cases hf0 : f = 0
        · subst hf0
          have HCL : Hid (Clean T (onesOf G S)) := (judge_zero HV.out rfl).2
          obtain ⟨k, hk, hkn⟩ : ∃ k : Nat, u.tmod (sn : Int) = (k : Int) ∧ k < sn := by
            have h1 := Int.tmod_nonneg (sn : Int) hu0
            have h2 := Int.tmod_lt_of_pos u (b := (sn : Int)) (by omega)
            exact ⟨(u.tmod (sn : Int)).toNat, by omega, by omega⟩
          have HKN := Lib.hid hkn
          have hk1 : (k : Int) ≤ (sn : Int) := by omega
          have hk2 : (k : Int) ≤ (sc : Int) := by omega
          have hk0 : (0 : Int) ≤ (k : Int) := by omega
          have hn2 : ¬ (sn : Int) = 0 := by omega
          clear hn0
          go_upto_region 11 with fail
          obtain ⟨W6, hW6⟩ : ∃ W6, W6 = w5.alloc (.cells #[.int .i64 0, .int .i64 0, .int .i64 0] 31) := ⟨_, rfl⟩
          have HB6 : Hid (Below W0.heap.size W0 W6) := by show Below _ _ _; rw [hW6]; exact HB5.out.alloc HB5.out.size _
          have HBw6 : Hid (Below w.heap.size w W6) := HB0.out.trans (HB6.out.mono HB0.out.size)
          rw [← hW6]
          clear hW6 q0 q1 q2 lp x0 lvb HBA
          obtain ⟨q0, q1, q2, lp⟩ := HPT.out _ HB6.out
          have HCALL : Hid (∀ W, Below W6.heap.size W6 W → Calls Try.prog 8 #[.agg #[.slice oa on oc, .slice ga gn gc, .slice sa k sc]] W fun r w' => r = .returned (.agg #[.int .i64 0, .int .i64 0, .int .i64 0]) ∧ Below W.heap.size W w') := fun W hb => by
            refine (HJ3.out W k (HBw6.out.trans (hb.mono HBw6.out.size)) HSM.out (Nat.le_of_lt HKN.out)).mono ?_
            rintro r w' ⟨v3, rfl, hb', hs'⟩
            have e := judge_clean (HCL.out.sub (ones_sub G S k)) hs'
            subst e
            exact ⟨rfl, hb'⟩
          have HCALL2 : Hid (Calls Try.prog 8 #[.agg #[.slice oa on oc, .slice ga gn gc, .slice sa k sc]] (W6.drew.alloc (.cells #[.int .i64 0, .int .i64 0, .int .i64 0] 31)) fun r w' => r = .returned (.agg #[.int .i64 0, .int .i64 0, .int .i64 0]) ∧
              Below W6.heap.size W6 w' ∧ w'.heap[W6.heap.size]? = some (.cells #[.int .i64 0, .int .i64 0, .int .i64 0] 31 (0, 0)) ∧ w'.cell? ⟨W6.heap.size, 0, none⟩ = some (.int .i64 0) ∧ w'.cell? ⟨W6.heap.size, 1, none⟩ = some (.int .i64 0) ∧ w'.cell? ⟨W6.heap.size, 2, none⟩ = some (.int .i64 0) ∧
              (∀ i, w'.frozen? ⟨W6.heap.size, i, none⟩ = false) ∧ W6.heap.size < w'.heap.size) := by
            have hbA : Below W6.heap.size W6 (W6.drew.alloc (.cells #[.int .i64 0, .int .i64 0, .int .i64 0] 31)) := (Below.refl _ W6).drew.alloc (Nat.le_refl _) _
            refine (HCALL.out _ hbA).mono ?_
            rintro r w' ⟨rfl, hb⟩
            have hrow : w'.heap[W6.heap.size]? = some (.cells #[.int .i64 0, .int .i64 0, .int .i64 0] 31 (0, 0)) := (hb.block _ (by simp)).trans (heap_alloc_new W6.drew _)
            exact ⟨rfl, hbA.trans (hb.mono hbA.size), hrow, by rw [cell_of_row _ _ _ _ _ _ hrow]; rfl, by rw [cell_of_row _ _ _ _ _ _ hrow]; rfl, by rw [cell_of_row _ _ _ _ _ _ hrow]; rfl, fun i => by simp [World.frozen?, hrow], lt_of_heap hrow⟩
          go_cut [9] from 53 to 62 (fun x wx => Elder W6 verd0 x wx)
          case first =>
            go_region_with (go_at_call 8; first | (refine (HCALL.out _ (Below.refl _ W6).drew).mono ?_; rintro r w' ⟨rfl, hb⟩) | (refine HCALL2.out.mono ?_; rintro r w' ⟨rfl, hb, hrow, c0, c1, c2, fz, hlt2⟩))
            all_goals (go_wp2_with fail; go_meet; first | exact elder_new hb | exact elder_old hb hrow)
          case rest =>
            obtain ⟨gg, rfl, hrow, hb⟩ := hcut
            unfold verd0 at hrow
            simp only at hrow
            have HB9 : Hid (Below w.heap.size w wc) := HBw6.out.trans (hb.mono HBw6.out.size)
            have y0 : wc.cell? ⟨gg, 0, none⟩ = some (.int .i64 0) := by rw [cell_of_row _ _ _ _ _ _ hrow]; rfl
            have y1 : wc.cell? ⟨gg, 1, none⟩ = some (.int .i64 0) := by rw [cell_of_row _ _ _ _ _ _ hrow]; rfl
            have y2 : wc.cell? ⟨gg, 2, none⟩ = some (.int .i64 0) := by rw [cell_of_row _ _ _ _ _ _ hrow]; rfl
            have hgg := lt_of_heap hrow
            clear hrow hb HCALL HCALL2 q0 q1 q2 lp
            go_wp2_with fail
            go_ret
            exact ⟨rfl, HB9.out⟩
        · have hf0' : (f != 0) = true := by simpa using hf0
          clear hn0 hf0
          go_wp2_with fail
          go_ret
          exact ⟨rfl, HBA.out _⟩
end Go.Proofs.Ytpcmkifgfokdpaa
