/- The model: the document's Run. -/
import Derived.Test.YtpcmkifgfokdpaaPut
namespace Go.Proofs.Ytpcmkifgfokdpaa
open Go.RowKit Go.My Go.My.Model Go.Deep
theorem PutRel.rows {w wr : World} {R : List Ent} {ra : Option Addr} {cap : Nat} (h : PutRel w R (.slice ra R.length cap) wr) : RowsIn wr ra R := fun i e hi => by
  have hlt := (List.getElem?_eq_some_iff.1 hi).1
  obtain ⟨g, rfl, h1, h2⟩ := row_pos h.out (by omega)
  have hc := fun j hj => row_cell h.out entL_len rfl hi (j := j) hj
  exact ⟨g, rfl, h2, hc 0 (by omega), hc 1 (by omega), hc 2 (by omega)⟩
theorem PutRel.step {w wr w1 : World} {R R1 : List Ent} {v v1 : Value} (h : PutRel w R v wr) (h2 : PutRel wr R1 v1 w1) : PutRel w R1 v1 w1 :=
  ⟨row_base h2.out h.below.size, h.below.trans (h2.below.mono h.below.size)⟩
theorem put_call (ra : Option Addr) (cap : Nat) (ds : List Wri) (x : Wri) (w : World) (h : RowsIn w ra (runL (stateOf ds))) (hl : ds.length ≤ 5000) :
    Calls Try.prog 40 #[.slice ra (runL (stateOf ds)).length cap, .string x.1, .string x.2] w (PutDone w (runL (stateOf (ds ++ [x])))) := by
  have h1 := run_few ds
  have h2 := put_any ra cap (runL (stateOf ds)) x.1 x.2 w h (by omega) (fun e he => by
    obtain ⟨_, h3⟩ := run_mem.1 he
    rw [h3]
    have := countK_le ds e.key
    show (0 : Int) ≤ (countK ds e.key : Int) ∧ (countK ds e.key : Int) ≤ 1000000
    omega)
  have h3 : endP x.1 x.2 (foldS x.1 x.2 (runL (stateOf ds)) (runL (stateOf ds)).length) = runL (stateOf (ds ++ [x])) := by
    unfold foldS
    rw [List.take_of_length_le (Nat.le_refl _), fold_put (run_up ds), put_run]
    rfl
  rw [h3] at h2
  exact h2
set_option maxRecDepth 100000 in
set_option maxHeartbeats 1600000 in
theorem ref_run (a : Option Addr) (cap : Nat) (T : List Tx) (w : World) (ho : OrdFar [] w a T) (hl : T.length ≤ 2000) (ht : (flat T T.length).length ≤ 5000) :
    Calls Try.prog 23 #[.slice a T.length cap] w (RunDone w (stateOf (flat T T.length))) := by
  have HO := Lib.hid ho
  have HTOT := Lib.hid ht
  obtain ⟨n, hn⟩ : ∃ n, n = T.length := ⟨_, rfl⟩
  have HN := Lib.hid hn
  have hn9 : (n : Int) ≤ 2000 := by omega
  have HFL : Hid (∀ i, (flat T i).length ≤ 5000) := fun i => Nat.le_trans (flat_le T i) ht
  rw [← hn]
  have P0 : Hid (PutRel w (runL (stateOf (flat T 0))) (.slice none 0 0) w) := by
    have h : runL (stateOf (flat T 0)) = [] := List.length_eq_zero_iff.1 (Nat.le_zero.1 (run_few []))
    show PutRel _ _ _ _
    rw [h]
    exact PutRel.start w
  clear ho ht hn hl
  go_enter Try.func23, Try.ntmps23
  go_wp2_with fail
  go_loopw [3, 4] (fun v i wr => ∃ j : Nat, j ≤ n ∧ i = .int .i64 j ∧ Hid (PutRel w (runL (stateOf (flat T j))) v wr)) (fun _ i _ => n - (intOf i).toNat)
  case atStart => exact ⟨0, by omega, rfl, P0⟩
  case round =>
    clear P0
    obtain ⟨j, hj, rfl, HP⟩ := hrel
    by_cases hlt : j < n
    · obtain ⟨t, ht⟩ : ∃ t, T[j]? = some t := ⟨_, List.getElem?_eq_getElem (by rw [← HN.out]; exact hlt)⟩
      obtain ⟨g, o, rfl, hx⟩ := HO.out j t ht
      obtain ⟨wa, wc, x3, hwr⟩ := hx.c3
      have HG := Lib.hid hx.lt
      have HX3 := Lib.hid x3
      have HWR := Lib.hid hwr
      have HFS : Hid (flat T (j + 1) = flat T j ++ t.writes) := flat_succ ht
      have hfew := HFL.out (j + 1)
      rw [HFS.out] at hfew
      have HFW := Lib.hid hfew
      obtain ⟨k, hk⟩ : ∃ k, k = t.writes.length := ⟨_, rfl⟩
      have HK := Lib.hid hk
      have hk1 : (k : Int) ≤ 5000 := by rw [List.length_append] at hfew; omega
      have hj0 : (0 : Int) ≤ (j : Int) := by omega
      have hj1 : (j : Int) < (n : Int) := by omega
      have P1 : Hid (PutRel w (runL (stateOf (flat T j ++ t.writes.take 0))) u3 wr) := by
        show PutRel _ _ _ _
        have h := HP.out
        simpa using h
      clear hx x3 hwr hfew hk ht
      go_wp2_with fail
      go_loopw [3, 5] (fun v i W => ∃ m : Nat, m ≤ k ∧ i = .int .i64 m ∧ Hid (PutRel w (runL (stateOf (flat T j ++ t.writes.take m))) v W)) (fun _ i _ => k - (intOf i).toNat)
      case atStart => exact ⟨0, by omega, rfl, P1⟩
      case round =>
        clear P1 HP
        obtain ⟨m, hm, rfl, HV⟩ := hrel
        have c3 := (HV.out.below.cell (p := ⟨g, o + j * 4 + 3, none⟩) HG.out).trans HX3.out
        rw [← HK.out] at c3
        have hg2 : g < wr.heap.size := Nat.lt_of_lt_of_le HG.out HV.out.below.size
        by_cases hlm : m < k
        · obtain ⟨x, hx⟩ : ∃ x, t.writes[m]? = some x := ⟨_, List.getElem?_eq_getElem (by rw [← HK.out]; exact hlm)⟩
          obtain ⟨g', o', rfl, hg', _, y0, y1, _⟩ := HWR.out m x hx
          have d0 := (HV.out.below.cell (p := ⟨g', o' + m * 2, none⟩) hg').trans y0
          have d1 := (HV.out.below.cell (p := ⟨g', o' + m * 2 + 1, none⟩) hg').trans y1
          have hg3 : g' < wr.heap.size := Nat.lt_of_lt_of_le hg' HV.out.below.size
          have HT : Hid (flat T j ++ t.writes.take (m + 1) = (flat T j ++ t.writes.take m) ++ [x]) := by show _ = _; rw [List.take_add_one, hx]; simp
          have hcnt : (flat T j ++ t.writes.take m).length ≤ 5000 := by
            have h1 := HFW.out
            have h2 := List.length_take_le' m t.writes
            rw [List.length_append] at h1 ⊢
            omega
          obtain ⟨va, vcap, rfl, _⟩ := row_form HV.out.out
          have hrows := HV.out.rows
          have HC : Hid (∀ W, Below wr.heap.size wr W → Calls Try.prog 40 #[.slice va (runL (stateOf (flat T j ++ t.writes.take m))).length vcap, .string x.1, .string x.2] W (PutDone W (runL (stateOf (flat T j ++ t.writes.take (m + 1)))))) := fun W hb => by
            rw [HT.out]
            exact put_call va vcap _ x W (hrows.below hb) hcnt
          generalize (runL (stateOf (flat T j ++ t.writes.take m))).length = q at HC ⊢
          have hm0 : (0 : Int) ≤ (m : Int) := by omega
          have hm1 : (m : Int) < (k : Int) := by omega
          clear hx hcnt hrows y0 y1
          go_wp2_with fail
          refine wp_region_tail 19 (by kernel_rfl) (by kernel_rfl) ?_
          simp only [List.take_succ_cons, List.take_zero, List.drop_succ_cons, List.drop_zero]
          repeat still_step
          refine wpStill_nil ?_
          have HB9 : Hid (Below wr.heap.size wr wr.drew) := (Below.refl _ wr).drew
          go_wp2_with fail
          refine (HC.out _ HB9.out).mono ?_
          rintro e w3 ⟨v3, rfl, hp3⟩
          have HP3 : Hid (PutRel w (runL (stateOf (flat T j ++ t.writes.take (m + 1)))) v3 w3) := HV.out.step ⟨row_base hp3.out HB9.out.size, HB9.out.trans (hp3.below.mono HB9.out.size)⟩
          clear hp3
          go_wp2_with fail
          go_roundw
          case rel => exact ⟨m + 1, by omega, by go_num, HP3⟩
          case measure => simp [intOf]; omega
        · obtain rfl : m = k := by omega
          have HT : Hid (flat T j ++ t.writes.take m = flat T (j + 1)) := by show _ = _; rw [HFS.out, HK.out, List.take_of_length_le (Nat.le_refl _)]
          rw [HT.out] at HV
          go_wp2_with fail
          exact ⟨⟨j + 1, by omega, by simp, HV⟩, by simp [intOf]; omega⟩
    · obtain rfl : j = n := by omega
      go_wp2_with fail
      go_ret
      exact ⟨_, rfl, HP.out.out, HP.out.below⟩
end Go.Proofs.Ytpcmkifgfokdpaa
