/- A judge: the order of a member has as many transactions as it said that they are done, and knows of. -/
import Derived.Test.YtpcmkifgfokdpaaJhead
import Derived.BigQuiet
import Derived.Deep.QuietTactic
namespace Go.Proofs.Ytpcmkifgfokdpaa
open Go.RowKit Go.My Go.My.Model Go.Deep
set_option maxRecDepth 100000 in
set_option maxHeartbeats 6400000 in
theorem order_4 (s : Seen) (w : World) (hs : SeenIn w s) (hf : FineS s) : Calls Try.prog 4 #[.agg #[.int .i64 s.view, .bool s.normal, .int .i64 s.done, .int .i64 s.stable, .int .i64 s.pending, .slice s.ranS.a s.ranS.n s.ranS.cap, .slice s.saysS.a s.saysS.n s.saysS.cap, .slice s.recsS.a s.recsS.n s.recsS.cap, .slice s.entsS.a s.entsS.n s.entsS.cap, .slice s.heldS.a s.heldS.n s.heldS.cap, .slice s.piecesS.a s.piecesS.n s.piecesS.cap, .slice s.movesS.a s.movesS.n s.movesS.cap]] w (BoolLeft w true) := by
  have HS := Lib.hid hs
  have HF := Lib.hid hf
  obtain ⟨n, hn⟩ : ∃ n, n = s.says.length := ⟨_, rfl⟩
  have HN := Lib.hid hn
  obtain ⟨rn, hrn⟩ : ∃ rn, rn = s.recs.length := ⟨_, rfl⟩
  have HRN := Lib.hid hrn
  have e1 : s.saysS.n = n := by rw [hs.saysN, hn]
  have e2 : s.recsS.n = rn := by rw [hs.recsN, hrn]
  obtain ⟨sa, hsa⟩ : ∃ sa, sa = s.saysS.a := ⟨_, rfl⟩
  obtain ⟨ra, hra⟩ : ∃ ra, ra = s.recsS.a := ⟨_, rfl⟩
  have HLS : Hid (Lies w sa 9 sayL s.says) := by show Lies _ _ _ _ _; rw [hsa]; exact hs.says
  have HLR : Hid (Lies w ra 10 recL s.recs) := by show Lies _ _ _ _ _; rw [hra]; exact hs.recs
  have HORD : Hid (∀ W, Below w.heap.size w W → Few s → Calls Try.prog 12 #[.agg #[.int .i64 s.view, .bool s.normal, .int .i64 s.done, .int .i64 s.stable, .int .i64 s.pending, .slice s.ranS.a s.ranS.n s.ranS.cap, .slice sa n s.saysS.cap, .slice ra rn s.recsS.cap, .slice s.entsS.a s.entsS.n s.entsS.cap, .slice s.heldS.a s.heldS.n s.heldS.cap, .slice s.piecesS.a s.piecesS.n s.piecesS.cap, .slice s.movesS.a s.movesS.n s.movesS.cap]] W (OrderLeft W (orderN s))) := fun W hb hfew => by
    have h := order_12 s W (hs.below hb) hfew
    rw [e1, e2, ← hsa, ← hra] at h
    exact h
  have HSL : Hid (seenL s = [.int .i64 s.view, .bool s.normal, .int .i64 s.done, .int .i64 s.stable, .int .i64 s.pending, .slice s.ranS.a s.ranS.n s.ranS.cap, .slice sa n s.saysS.cap, .slice ra rn s.recsS.cap, .slice s.entsS.a s.entsS.n s.entsS.cap, .slice s.heldS.a s.heldS.n s.heldS.cap, .slice s.piecesS.a s.piecesS.n s.piecesS.cap, .slice s.movesS.a s.movesS.n s.movesS.cap]) := by
    show _ = _
    rw [hsa, hra, ← e1, ← e2]
    rfl
  rw [e1, e2, ← hsa, ← hra]
  clear hs hf hn hrn e1 e2 hsa hra
  obtain ⟨W0, hW0⟩ : ∃ W0, W0 = w.alloc (.cells #[.int .i64 s.view, .bool s.normal, .int .i64 s.done, .int .i64 s.stable, .int .i64 s.pending, .slice s.ranS.a s.ranS.n s.ranS.cap, .slice sa n s.saysS.cap, .slice ra rn s.recsS.cap, .slice s.entsS.a s.entsS.n s.entsS.cap, .slice s.heldS.a s.heldS.n s.heldS.cap, .slice s.piecesS.a s.piecesS.n s.piecesS.cap, .slice s.movesS.a s.movesS.n s.movesS.cap] 41) := ⟨_, rfl⟩
  have HB0 : Hid (Below w.heap.size w W0) := by show Below _ _ _; rw [hW0]; exact (Below.refl _ w).alloc (Nat.le_refl _) _
  have HT0 : Hid (W0.heap[w.heap.size]? = some (.cells #[.int .i64 s.view, .bool s.normal, .int .i64 s.done, .int .i64 s.stable, .int .i64 s.pending, .slice s.ranS.a s.ranS.n s.ranS.cap, .slice sa n s.saysS.cap, .slice ra rn s.recsS.cap, .slice s.entsS.a s.entsS.n s.entsS.cap, .slice s.heldS.a s.heldS.n s.heldS.cap, .slice s.piecesS.a s.piecesS.n s.piecesS.cap, .slice s.movesS.a s.movesS.n s.movesS.cap] 41 (0, 0))) := by show _ = _; rw [hW0]; exact heap_alloc_new w _
  have HPT : Hid (∀ W, Below W0.heap.size W0 W → w.heap.size < W.heap.size ∧ W.cell? ⟨w.heap.size, 0, none⟩ = some (.int .i64 s.view) ∧ W.cell? ⟨w.heap.size, 1, none⟩ = some (.bool s.normal) ∧ W.cell? ⟨w.heap.size, 2, none⟩ = some (.int .i64 s.done) ∧ W.cell? ⟨w.heap.size, 3, none⟩ = some (.int .i64 s.stable) ∧ W.cell? ⟨w.heap.size, 4, none⟩ = some (.int .i64 s.pending) ∧ W.cell? ⟨w.heap.size, 5, none⟩ = some (.slice s.ranS.a s.ranS.n s.ranS.cap) ∧ W.cell? ⟨w.heap.size, 6, none⟩ = some (.slice sa n s.saysS.cap) ∧ W.cell? ⟨w.heap.size, 7, none⟩ = some (.slice ra rn s.recsS.cap) ∧ W.cell? ⟨w.heap.size, 8, none⟩ = some (.slice s.entsS.a s.entsS.n s.entsS.cap) ∧ W.cell? ⟨w.heap.size, 9, none⟩ = some (.slice s.heldS.a s.heldS.n s.heldS.cap) ∧ W.cell? ⟨w.heap.size, 10, none⟩ = some (.slice s.piecesS.a s.piecesS.n s.piecesS.cap) ∧ W.cell? ⟨w.heap.size, 11, none⟩ = some (.slice s.movesS.a s.movesS.n s.movesS.cap)) := fun W hb => by
    have h := (hb.block _ (lt_of_heap HT0.out)).trans HT0.out
    exact ⟨lt_of_heap h, by rw [cell_of_row _ _ _ _ _ _ h]; rfl, by rw [cell_of_row _ _ _ _ _ _ h]; rfl, by rw [cell_of_row _ _ _ _ _ _ h]; rfl, by rw [cell_of_row _ _ _ _ _ _ h]; rfl, by rw [cell_of_row _ _ _ _ _ _ h]; rfl, by rw [cell_of_row _ _ _ _ _ _ h]; rfl, by rw [cell_of_row _ _ _ _ _ _ h]; rfl, by rw [cell_of_row _ _ _ _ _ _ h]; rfl, by rw [cell_of_row _ _ _ _ _ _ h]; rfl, by rw [cell_of_row _ _ _ _ _ _ h]; rfl, by rw [cell_of_row _ _ _ _ _ _ h]; rfl, by rw [cell_of_row _ _ _ _ _ _ h]; rfl⟩
  go_enter Try.func4, Try.ntmps4
  go_wp2_with fail
  rw [← hW0]
  clear hW0
  refine (head_6 W0).mono ?_
  rintro e w1 ⟨rfl, hb1⟩
  have HB1 := Lib.hid hb1
  obtain ⟨lp, q0, q1, q2, q3, q4, q5, q6, q7, q8, q9, q10, q11⟩ := HPT.out _ HB1.out
  clear hb1
  go_wp2_with fail
  obtain ⟨W2, hW2⟩ : ∃ W2, W2 = w1.alloc (.cells #[.int .i64 s.view, .bool s.normal, .int .i64 s.done, .int .i64 s.stable, .int .i64 s.pending, .slice s.ranS.a s.ranS.n s.ranS.cap, .slice sa n s.saysS.cap, .slice ra rn s.recsS.cap, .slice s.entsS.a s.entsS.n s.entsS.cap, .slice s.heldS.a s.heldS.n s.heldS.cap, .slice s.piecesS.a s.piecesS.n s.piecesS.cap, .slice s.movesS.a s.movesS.n s.movesS.cap] 41) := ⟨_, rfl⟩
  have HB2 : Hid (Below w1.heap.size w1 W2) := by show Below _ _ _; rw [hW2]; exact (Below.refl _ w1).alloc (Nat.le_refl _) _
  have HR2 : Hid (W2.heap[w1.heap.size]? = some (.cells #[.int .i64 s.view, .bool s.normal, .int .i64 s.done, .int .i64 s.stable, .int .i64 s.pending, .slice s.ranS.a s.ranS.n s.ranS.cap, .slice sa n s.saysS.cap, .slice ra rn s.recsS.cap, .slice s.entsS.a s.entsS.n s.entsS.cap, .slice s.heldS.a s.heldS.n s.heldS.cap, .slice s.piecesS.a s.piecesS.n s.piecesS.cap, .slice s.movesS.a s.movesS.n s.movesS.cap] 41 (0, 0))) := by show _ = _; rw [hW2]; exact heap_alloc_new w1 _
  rw [← hW2]
  clear hW2 lp q0 q1 q2 q3 q4 q5 q6 q7 q8 q9 q10 q11
  have HBW2 : Hid (Below W0.heap.size W0 W2) := HB1.out.trans (HB2.out.mono HB1.out.size)
  have HBw2 : Hid (Below w.heap.size w W2) := HB0.out.trans (HBW2.out.mono HB0.out.size)
  refine (great_7 [] [] [s] W2 none none (some ⟨w1.heap.size, 0, none⟩) 0 0 1 (fun i t h => by simp at h) ⟨by simp, fun t h => by simp at h⟩ (lies_cons (lt_of_heap HR2.out) fun i x hi j v hj => ?_) (fun x hx => ?_) (by simp) (by simp)).mono ?_
  · rw [row_cells HR2.out]
    match i, hi with
    | 0, hi =>
      have e : s = x := by simpa using hi
      subst e
      rw [HSL.out] at hj
      rw [Nat.zero_mul, Nat.zero_add]
      have hj12 : j < 12 := (List.getElem?_eq_some_iff.1 hj).1
      rw [← hj]
      match j, hj12 with
      | 0, _ => rfl
      | 1, _ => rfl
      | 2, _ => rfl
      | 3, _ => rfl
      | 4, _ => rfl
      | 5, _ => rfl
      | 6, _ => rfl
      | 7, _ => rfl
      | 8, _ => rfl
      | 9, _ => rfl
      | 10, _ => rfl
      | 11, _ => rfl
    | i + 1, hi => simp at hi
  · have e : x = s := by simpa using hx
    subst e
    exact ⟨HS.out.below HBw2.out, HF.out⟩
  rintro e w3 ⟨g, rfl, hg, hb3⟩
  have HB3 : Hid (Below W0.heap.size W0 w3) := HBW2.out.trans (hb3.mono HBW2.out.size)
  have HBw3 : Hid (Below w.heap.size w w3) := HB0.out.trans (HB3.out.mono HB0.out.size)
  clear hb3
  cases g with
  | true =>
    clear hg
    go_wp2_with fail
    go_ret
    exact ⟨rfl, HBw3.out⟩
  | false =>
    have HFEW : Hid (Few s) := (hg rfl).few.2.2.2 s (by simp)
    have hn9 : (n : Int) ≤ 1000 := by have := HFEW.out.says; have := HN.out; omega
    have hr9 : (rn : Int) ≤ 1000 := by have := HFEW.out.recs; have := HRN.out; omega
    have P0 : Hid (Below W0.heap.size W0 w3) := HB3.out
    have HC9 : Hid (∀ j, cntN s j ≤ 1000) := fun j => by
      have h1 := done_len (s.says.take j)
      have h2 := List.length_take_le' j s.says
      have h3 := List.length_filter_le (hasRec s.recs) (doneL (s.says.take j))
      have h4 := HFEW.out.says
      unfold cntN
      omega
    have HC0 : Hid (cntN s 0 = 0) := rfl
    clear hg
    go_wp2_with fail
    go_loopw [4, 5] (fun c i wr => ∃ j : Nat, j ≤ n ∧ i = .int .i64 j ∧ c = .int .i64 (cntN s j : Nat) ∧ Hid (Below W0.heap.size W0 wr)) (fun _ i _ => n - (intOf i).toNat)
    case atStart => exact ⟨0, by omega, rfl, by rw [HC0.out]; rfl, P0⟩
    case round =>
      clear P0 HC0
      obtain ⟨j, hj, rfl, rfl, HB⟩ := hrel
      obtain ⟨lp, q0, q1, q2, q3, q4, q5, q6, q7, q8, q9, q10, q11⟩ := HPT.out _ HB.out
      have HBW : Hid (Below w.heap.size w wr) := HB0.out.trans (HB.out.mono HB0.out.size)
      by_cases hlt : j < n
      · obtain ⟨x, hx⟩ : ∃ x, s.says[j]? = some x := ⟨_, List.getElem?_eq_getElem (by rw [← HN.out]; exact hlt)⟩
        obtain ⟨g, o, rfl, hg, hc⟩ := HLS.out.below HBW.out j x hx
        have d0 : wr.cell? ⟨g, o + j * 9, none⟩ = some (.int .i64 x.kind) := hc 0 _ rfl
        have d1 : wr.cell? ⟨g, o + j * 9 + 1, none⟩ = some (.int .i64 x.txn) := hc 1 _ rfl
        have d2 : wr.cell? ⟨g, o + j * 9 + 2, none⟩ = some (.bool x.yes) := hc 2 _ rfl
        have d3 : wr.cell? ⟨g, o + j * 9 + 3, none⟩ = some (.string x.frm) := hc 3 _ rfl
        have d4 : wr.cell? ⟨g, o + j * 9 + 4, none⟩ = some (.string x.upto) := hc 4 _ rfl
        have d5 : wr.cell? ⟨g, o + j * 9 + 5, none⟩ = some (.int .i64 x.epoch) := hc 5 _ rfl
        have d6 : wr.cell? ⟨g, o + j * 9 + 6, none⟩ = some (.int .i64 x.shard) := hc 6 _ rfl
        have d7 : wr.cell? ⟨g, o + j * 9 + 7, none⟩ = some (.int .i64 x.target) := hc 7 _ rfl
        have d8 : wr.cell? ⟨g, o + j * 9 + 8, none⟩ = some (.int .i64 x.root) := hc 8 _ rfl
        have HX := Lib.hid hx
        have HCS := Lib.hid (cnt_step hx)
        have hc9 := HC9.out j
        obtain ⟨cc, hcc⟩ : ∃ cc, cc = cntN s j := ⟨_, rfl⟩
        have HCC := Lib.hid hcc
        rw [← hcc] at HCS hc9 ⊢
        have hc8 : (cc : Int) ≤ 1000 := by omega
        have hj0 : (0 : Int) ≤ (j : Int) := by omega
        have hj1 : (j : Int) < (n : Int) := by omega
        obtain ⟨W1, hW1⟩ : ∃ W1, W1 = wr.alloc (.cells #[.int .i64 x.kind, .int .i64 x.txn, .bool x.yes, .string x.frm, .string x.upto, .int .i64 x.epoch, .int .i64 x.shard, .int .i64 x.target, .int .i64 x.root] 53) := ⟨_, rfl⟩
        have HB1' : Hid (Below wr.heap.size wr W1) := by show Below _ _ _; rw [hW1]; exact (Below.refl _ wr).alloc (Nat.le_refl _) _
        have HX1 : Hid (W1.heap[wr.heap.size]? = some (.cells #[.int .i64 x.kind, .int .i64 x.txn, .bool x.yes, .string x.frm, .string x.upto, .int .i64 x.epoch, .int .i64 x.shard, .int .i64 x.target, .int .i64 x.root] 53 (0, 0))) := by show _ = _; rw [hW1]; exact heap_alloc_new wr _
        have HBL : Hid (∀ W, Below W1.heap.size W1 W → Below W0.heap.size W0 W) := fun W hb => HB.out.trans ((HB1'.out.trans (hb.mono HB1'.out.size)).mono HB.out.size)
        have P1 : Hid (Below W1.heap.size W1 W1) := Below.refl _ _
        clear hx hc hcc
        obtain ⟨fb, hfb⟩ : ∃ fb, fb = toDone x := ⟨_, rfl⟩
        have HF0 : Hid ((toDone x && !seenB (s.says.take 0) x.txn) = fb) := by show _ = _; rw [hfb]; unfold seenB; simp
        have HFB := Lib.hid hfb
        have hk1 : (x.kind == 3) = true ∨ (x.kind == 3) = false := by cases (x.kind == 3) <;> simp
        have HFE : Hid (fb = ((x.kind == 3) && x.yes)) := by
          show _ = _
          rw [hfb]
          rfl
        clear hfb
        rcases hk1 with hk1 | hk1
        · cases hyy : x.yes with
          | true =>
            obtain rfl : fb = true := by rw [HFE.out, hk1, hyy]; rfl
            rw [hyy] at hW1 d2 HX1
            clear hyy HFE
            go_wp2_with fail
            obtain ⟨xb, hxb⟩ : ∃ xb, xb = wr.heap.size := ⟨_, rfl⟩
            rw [← hW1, ← hxb]
            rw [← hxb] at HX1
            clear hW1 hxb lp q0 q1 q2 q3 q4 q5 q6 q7 q8 q9 q10 q11 d0 d1 d2 d3 d4 d5 d6 d7 d8 hg
            have HXB : Hid (∀ W, Below W1.heap.size W1 W → W.cell? ⟨xb, 1, none⟩ = some (.int .i64 x.txn) ∧ xb < W.heap.size) := fun W hb => by
              have h := (hb.block _ (lt_of_heap HX1.out)).trans HX1.out
              exact ⟨by rw [cell_of_row _ _ _ _ _ _ h]; rfl, lt_of_heap h⟩
            clear HX1 hk1
            go_loopw [7, 8] (fun f k W => ∃ m : Nat, m ≤ j ∧ k = .int .i64 m ∧ f = .bool (toDone x && !seenB (s.says.take m) x.txn) ∧ Hid (Below W1.heap.size W1 W)) (fun _ k _ => j - (intOf k).toNat)
            case atStart => exact ⟨0, by omega, rfl, by rw [HF0.out]; try rfl, P1⟩
            case round =>
              clear P1 HF0
              obtain ⟨m, hm, rfl, rfl, HV⟩ := hrel
              have HBV : Hid (Below W0.heap.size W0 wr) := HBL.out _ HV.out
              obtain ⟨lp, q0, q1, q2, q3, q4, q5, q6, q7, q8, q9, q10, q11⟩ := HPT.out _ HBV.out
              have HBw : Hid (Below w.heap.size w wr) := HB0.out.trans (HBV.out.mono HB0.out.size)
              obtain ⟨x1, lx⟩ := HXB.out _ HV.out
              by_cases hlm : m < j
              · obtain ⟨y, hy⟩ : ∃ y, s.says[m]? = some y := ⟨_, List.getElem?_eq_getElem (by rw [← HN.out]; omega)⟩
                obtain ⟨g', o', hgg, hg', yc⟩ := HLS.out.below HBw.out m y hy
                obtain ⟨rfl, rfl⟩ : g = g' ∧ o = o' := by simpa using hgg
                have d0 : wr.cell? ⟨g, o + m * 9, none⟩ = some (.int .i64 y.kind) := yc 0 _ rfl
                have d1 : wr.cell? ⟨g, o + m * 9 + 1, none⟩ = some (.int .i64 y.txn) := yc 1 _ rfl
                have d2 : wr.cell? ⟨g, o + m * 9 + 2, none⟩ = some (.bool y.yes) := yc 2 _ rfl
                have HNX : Hid ((toDone x && !seenB (s.says.take (m + 1)) x.txn) = ((toDone x && !seenB (s.says.take m) x.txn) && !(toDone y && decide (y.txn = x.txn)))) := by
                  show _ = _
                  rw [seen_take hy]
                  cases toDone x <;> cases seenB (s.says.take m) x.txn <;> simp
                have hm0 : (0 : Int) ≤ (m : Int) := by omega
                have hm1 : (m : Int) < (j : Int) := by omega
                have hm2 : (m : Int) < (n : Int) := by omega
                have HND : Hid (∀ nq, Below W1.heap.size W1 (wr.drewN nq)) := fun nq => HV.out.trans ⟨rfl, rfl, rfl, by simp, fun _ _ => rfl⟩
                clear hy hgg yc
                obtain ⟨f, hf⟩ : ∃ f, f = (toDone x && !seenB (s.says.take m) x.txn) := ⟨_, rfl⟩
                rw [← hf] at HNX ⊢
                clear hf
                cases f with
                | false =>
                  go_wp2_with fail
                  go_quiet (fail)
                  go_wp2_with fail
                  exact ⟨⟨m + 1, by omega, by simp, by rw [HNX.out]; rfl, HND.out _⟩, by simp [intOf]; omega⟩
                | true =>
                  cases hyk : (y.kind == 3) with
                  | false =>
                    have HTD : Hid (toDone y = false) := by show _ = _; unfold toDone; have : ¬ y.kind = 3 := by simpa using hyk
                                                            simp [this]
                    go_wp2_with fail
                    go_quiet (fail)
                    go_wp2_with fail
                    exact ⟨⟨m + 1, by omega, by simp, by rw [HNX.out, HTD.out]; rfl, HND.out _⟩, by simp [intOf]; omega⟩
                  | true =>
                    cases hyy : y.yes with
                    | false =>
                      have HTD : Hid (toDone y = false) := by show _ = _; unfold toDone; rw [hyy]; simp
                      rw [hyy] at d2
                      clear hyy
                      go_wp2_with fail
                      go_quiet (fail)
                      go_wp2_with fail
                      exact ⟨⟨m + 1, by omega, by simp, by rw [HNX.out, HTD.out]; rfl, HND.out _⟩, by simp [intOf]; omega⟩
                    | true =>
                      have HTD : Hid (toDone y = true) := by show _ = _; unfold toDone; have : y.kind = 3 := by simpa using hyk
                                                             simp [this, hyy]
                      rw [hyy] at d2
                      clear hyy
                      by_cases ht : y.txn = x.txn
                      · have ht1 : (y.txn == x.txn) = true := by simpa using ht
                        have HDT : Hid (decide (y.txn = x.txn) = true) := decide_eq_true ht
                        clear ht
                        go_wp2_with fail
                        go_quiet (fail)
                        go_wp2_with fail
                        exact ⟨⟨m + 1, by omega, by simp, by rw [HNX.out, HTD.out, HDT.out]; rfl, HND.out _⟩, by simp [intOf]; omega⟩
                      · have ht1 : (y.txn == x.txn) = false := by simpa using ht
                        have HDT : Hid (decide (y.txn = x.txn) = false) := decide_eq_false ht
                        clear ht
                        go_wp2_with fail
                        go_quiet (fail)
                        go_wp2_with fail
                        exact ⟨⟨m + 1, by omega, by simp, by rw [HNX.out, HTD.out, HDT.out]; rfl, HND.out _⟩, by simp [intOf]; omega⟩
              · obtain rfl : m = j := by omega
                have P2 : Hid (Below W1.heap.size W1 wr) := HV.out
                obtain ⟨f, hf⟩ : ∃ f, f = (toDone x && !seenB (s.says.take m) x.txn) := ⟨_, rfl⟩
                rw [← hf] at HCS ⊢
                have HK0 : Hid (hasRec (s.recs.take 0) x.txn = false) := rfl
                clear hf
                go_wp2_with fail
                go_loopw [9, 10] (fun b k W => ∃ p : Nat, p ≤ rn ∧ k = .int .i64 p ∧ b = .bool (hasRec (s.recs.take p) x.txn) ∧ Hid (Below W1.heap.size W1 W)) (fun _ k _ => rn - (intOf k).toNat)
                case atStart => exact ⟨0, by omega, rfl, by rw [HK0.out], P2⟩
                case round =>
                  clear P2 HK0 HV lp x1 lx q0 q1 q2 q3 q4 q5 q6 q7 q8 q9 q10 q11
                  obtain ⟨p, hp, rfl, rfl, HV⟩ := hrel
                  have HBV : Hid (Below W0.heap.size W0 wr) := HBL.out _ HV.out
                  obtain ⟨lp, q0, q1, q2, q3, q4, q5, q6, q7, q8, q9, q10, q11⟩ := HPT.out _ HBV.out
                  have HBw : Hid (Below w.heap.size w wr) := HB0.out.trans (HBV.out.mono HB0.out.size)
                  obtain ⟨x1, lx⟩ := HXB.out _ HV.out
                  by_cases hlp : p < rn
                  · obtain ⟨r, hr⟩ : ∃ r, s.recs[p]? = some r := ⟨_, List.getElem?_eq_getElem (by rw [← HRN.out]; exact hlp)⟩
                    obtain ⟨rg, ro, rfl, hrg, rc⟩ := HLR.out.below HBw.out p r hr
                    have d0 : wr.cell? ⟨rg, ro + p * 10, none⟩ = some (.int .i64 r.txn) := rc 0 _ rfl
                    have HNX : Hid (hasRec (s.recs.take (p + 1)) x.txn = (hasRec (s.recs.take p) x.txn || decide (r.txn = x.txn))) := any_take hr
                    have hp0 : (0 : Int) ≤ (p : Int) := by omega
                    have hp1 : (p : Int) < (rn : Int) := by omega
                    have HND : Hid (∀ nq, Below W1.heap.size W1 (wr.drewN nq)) := fun nq => HV.out.trans ⟨rfl, rfl, rfl, by simp, fun _ _ => rfl⟩
                    clear hr rc
                    obtain ⟨b, hb⟩ : ∃ b, b = hasRec (s.recs.take p) x.txn := ⟨_, rfl⟩
                    rw [← hb] at HNX ⊢
                    clear hb
                    cases b with
                    | true =>
                      go_wp2_with fail
                      go_quiet (fail)
                      go_wp2_with fail
                      exact ⟨⟨p + 1, by omega, by simp, by rw [HNX.out]; rfl, HND.out _⟩, by simp [intOf]; omega⟩
                    | false =>
                      by_cases ht : r.txn = x.txn
                      · have ht1 : (r.txn == x.txn) = true := by simpa using ht
                        have HDT : Hid (decide (r.txn = x.txn) = true) := decide_eq_true ht
                        clear ht
                        go_wp2_with fail
                        go_quiet (fail)
                        go_wp2_with fail
                        exact ⟨⟨p + 1, by omega, by simp, by rw [HNX.out, HDT.out]; rfl, HND.out _⟩, by simp [intOf]; omega⟩
                      · have ht1 : (r.txn == x.txn) = false := by simpa using ht
                        have HDT : Hid (decide (r.txn = x.txn) = false) := decide_eq_false ht
                        clear ht
                        go_wp2_with fail
                        go_quiet (fail)
                        go_wp2_with fail
                        exact ⟨⟨p + 1, by omega, by simp, by rw [HNX.out, HDT.out]; rfl, HND.out _⟩, by simp [intOf]; omega⟩
                  · obtain rfl : p = rn := by omega
                    have HKN : Hid (hasRec (s.recs.take p) x.txn = hasRec s.recs x.txn) := by show _ = _; rw [List.take_of_length_le (by rw [HRN.out]; exact Nat.le_refl _)]
                    rw [HKN.out]
                    have HBN : Hid (Below W0.heap.size W0 wr) := HBV.out
                    obtain ⟨b, hb⟩ : ∃ b, b = hasRec s.recs x.txn := ⟨_, rfl⟩
                    rw [← hb] at HCS ⊢
                    clear hb
                    cases f with
                    | false =>
                      go_wp2_with fail
                      exact ⟨⟨m + 1, by omega, by simp, by rw [HCS.out]; rfl, HBN⟩, by simp [intOf]; omega⟩
                    | true =>
                      cases b with
                      | false =>
                        go_wp2_with fail
                        exact ⟨⟨m + 1, by omega, by simp, by rw [HCS.out]; rfl, HBN⟩, by simp [intOf]; omega⟩
                      | true =>
                        go_wp2_with fail
                        exact ⟨⟨m + 1, by omega, by simp, by rw [HCS.out]; rfl, HBN⟩, by simp [intOf]; omega⟩
          | false =>
            obtain rfl : fb = false := by rw [HFE.out, hk1, hyy]; rfl
            rw [hyy] at hW1 d2 HX1
            clear hyy HFE
            go_wp2_with fail
            obtain ⟨xb, hxb⟩ : ∃ xb, xb = wr.heap.size := ⟨_, rfl⟩
            rw [← hW1, ← hxb]
            rw [← hxb] at HX1
            clear hW1 hxb lp q0 q1 q2 q3 q4 q5 q6 q7 q8 q9 q10 q11 d0 d1 d2 d3 d4 d5 d6 d7 d8 hg
            have HXB : Hid (∀ W, Below W1.heap.size W1 W → W.cell? ⟨xb, 1, none⟩ = some (.int .i64 x.txn) ∧ xb < W.heap.size) := fun W hb => by
              have h := (hb.block _ (lt_of_heap HX1.out)).trans HX1.out
              exact ⟨by rw [cell_of_row _ _ _ _ _ _ h]; rfl, lt_of_heap h⟩
            clear HX1 hk1
            go_loopw [7, 8] (fun f k W => ∃ m : Nat, m ≤ j ∧ k = .int .i64 m ∧ f = .bool (toDone x && !seenB (s.says.take m) x.txn) ∧ Hid (Below W1.heap.size W1 W)) (fun _ k _ => j - (intOf k).toNat)
            case atStart => exact ⟨0, by omega, rfl, by rw [HF0.out]; try rfl, P1⟩
            case round =>
              clear P1 HF0
              obtain ⟨m, hm, rfl, rfl, HV⟩ := hrel
              have HBV : Hid (Below W0.heap.size W0 wr) := HBL.out _ HV.out
              obtain ⟨lp, q0, q1, q2, q3, q4, q5, q6, q7, q8, q9, q10, q11⟩ := HPT.out _ HBV.out
              have HBw : Hid (Below w.heap.size w wr) := HB0.out.trans (HBV.out.mono HB0.out.size)
              obtain ⟨x1, lx⟩ := HXB.out _ HV.out
              by_cases hlm : m < j
              · obtain ⟨y, hy⟩ : ∃ y, s.says[m]? = some y := ⟨_, List.getElem?_eq_getElem (by rw [← HN.out]; omega)⟩
                obtain ⟨g', o', hgg, hg', yc⟩ := HLS.out.below HBw.out m y hy
                obtain ⟨rfl, rfl⟩ : g = g' ∧ o = o' := by simpa using hgg
                have d0 : wr.cell? ⟨g, o + m * 9, none⟩ = some (.int .i64 y.kind) := yc 0 _ rfl
                have d1 : wr.cell? ⟨g, o + m * 9 + 1, none⟩ = some (.int .i64 y.txn) := yc 1 _ rfl
                have d2 : wr.cell? ⟨g, o + m * 9 + 2, none⟩ = some (.bool y.yes) := yc 2 _ rfl
                have HNX : Hid ((toDone x && !seenB (s.says.take (m + 1)) x.txn) = ((toDone x && !seenB (s.says.take m) x.txn) && !(toDone y && decide (y.txn = x.txn)))) := by
                  show _ = _
                  rw [seen_take hy]
                  cases toDone x <;> cases seenB (s.says.take m) x.txn <;> simp
                have hm0 : (0 : Int) ≤ (m : Int) := by omega
                have hm1 : (m : Int) < (j : Int) := by omega
                have hm2 : (m : Int) < (n : Int) := by omega
                have HND : Hid (∀ nq, Below W1.heap.size W1 (wr.drewN nq)) := fun nq => HV.out.trans ⟨rfl, rfl, rfl, by simp, fun _ _ => rfl⟩
                clear hy hgg yc
                obtain ⟨f, hf⟩ : ∃ f, f = (toDone x && !seenB (s.says.take m) x.txn) := ⟨_, rfl⟩
                rw [← hf] at HNX ⊢
                clear hf
                cases f with
                | false =>
                  go_wp2_with fail
                  go_quiet (fail)
                  go_wp2_with fail
                  exact ⟨⟨m + 1, by omega, by simp, by rw [HNX.out]; rfl, HND.out _⟩, by simp [intOf]; omega⟩
                | true =>
                  cases hyk : (y.kind == 3) with
                  | false =>
                    have HTD : Hid (toDone y = false) := by show _ = _; unfold toDone; have : ¬ y.kind = 3 := by simpa using hyk
                                                            simp [this]
                    go_wp2_with fail
                    go_quiet (fail)
                    go_wp2_with fail
                    exact ⟨⟨m + 1, by omega, by simp, by rw [HNX.out, HTD.out]; rfl, HND.out _⟩, by simp [intOf]; omega⟩
                  | true =>
                    cases hyy : y.yes with
                    | false =>
                      have HTD : Hid (toDone y = false) := by show _ = _; unfold toDone; rw [hyy]; simp
                      rw [hyy] at d2
                      clear hyy
                      go_wp2_with fail
                      go_quiet (fail)
                      go_wp2_with fail
                      exact ⟨⟨m + 1, by omega, by simp, by rw [HNX.out, HTD.out]; rfl, HND.out _⟩, by simp [intOf]; omega⟩
                    | true =>
                      have HTD : Hid (toDone y = true) := by show _ = _; unfold toDone; have : y.kind = 3 := by simpa using hyk
                                                             simp [this, hyy]
                      rw [hyy] at d2
                      clear hyy
                      by_cases ht : y.txn = x.txn
                      · have ht1 : (y.txn == x.txn) = true := by simpa using ht
                        have HDT : Hid (decide (y.txn = x.txn) = true) := decide_eq_true ht
                        clear ht
                        go_wp2_with fail
                        go_quiet (fail)
                        go_wp2_with fail
                        exact ⟨⟨m + 1, by omega, by simp, by rw [HNX.out, HTD.out, HDT.out]; rfl, HND.out _⟩, by simp [intOf]; omega⟩
                      · have ht1 : (y.txn == x.txn) = false := by simpa using ht
                        have HDT : Hid (decide (y.txn = x.txn) = false) := decide_eq_false ht
                        clear ht
                        go_wp2_with fail
                        go_quiet (fail)
                        go_wp2_with fail
                        exact ⟨⟨m + 1, by omega, by simp, by rw [HNX.out, HTD.out, HDT.out]; rfl, HND.out _⟩, by simp [intOf]; omega⟩
              · obtain rfl : m = j := by omega
                have P2 : Hid (Below W1.heap.size W1 wr) := HV.out
                obtain ⟨f, hf⟩ : ∃ f, f = (toDone x && !seenB (s.says.take m) x.txn) := ⟨_, rfl⟩
                rw [← hf] at HCS ⊢
                have HK0 : Hid (hasRec (s.recs.take 0) x.txn = false) := rfl
                clear hf
                go_wp2_with fail
                go_loopw [9, 10] (fun b k W => ∃ p : Nat, p ≤ rn ∧ k = .int .i64 p ∧ b = .bool (hasRec (s.recs.take p) x.txn) ∧ Hid (Below W1.heap.size W1 W)) (fun _ k _ => rn - (intOf k).toNat)
                case atStart => exact ⟨0, by omega, rfl, by rw [HK0.out], P2⟩
                case round =>
                  clear P2 HK0 HV lp x1 lx q0 q1 q2 q3 q4 q5 q6 q7 q8 q9 q10 q11
                  obtain ⟨p, hp, rfl, rfl, HV⟩ := hrel
                  have HBV : Hid (Below W0.heap.size W0 wr) := HBL.out _ HV.out
                  obtain ⟨lp, q0, q1, q2, q3, q4, q5, q6, q7, q8, q9, q10, q11⟩ := HPT.out _ HBV.out
                  have HBw : Hid (Below w.heap.size w wr) := HB0.out.trans (HBV.out.mono HB0.out.size)
                  obtain ⟨x1, lx⟩ := HXB.out _ HV.out
                  by_cases hlp : p < rn
                  · obtain ⟨r, hr⟩ : ∃ r, s.recs[p]? = some r := ⟨_, List.getElem?_eq_getElem (by rw [← HRN.out]; exact hlp)⟩
                    obtain ⟨rg, ro, rfl, hrg, rc⟩ := HLR.out.below HBw.out p r hr
                    have d0 : wr.cell? ⟨rg, ro + p * 10, none⟩ = some (.int .i64 r.txn) := rc 0 _ rfl
                    have HNX : Hid (hasRec (s.recs.take (p + 1)) x.txn = (hasRec (s.recs.take p) x.txn || decide (r.txn = x.txn))) := any_take hr
                    have hp0 : (0 : Int) ≤ (p : Int) := by omega
                    have hp1 : (p : Int) < (rn : Int) := by omega
                    have HND : Hid (∀ nq, Below W1.heap.size W1 (wr.drewN nq)) := fun nq => HV.out.trans ⟨rfl, rfl, rfl, by simp, fun _ _ => rfl⟩
                    clear hr rc
                    obtain ⟨b, hb⟩ : ∃ b, b = hasRec (s.recs.take p) x.txn := ⟨_, rfl⟩
                    rw [← hb] at HNX ⊢
                    clear hb
                    cases b with
                    | true =>
                      go_wp2_with fail
                      go_quiet (fail)
                      go_wp2_with fail
                      exact ⟨⟨p + 1, by omega, by simp, by rw [HNX.out]; rfl, HND.out _⟩, by simp [intOf]; omega⟩
                    | false =>
                      by_cases ht : r.txn = x.txn
                      · have ht1 : (r.txn == x.txn) = true := by simpa using ht
                        have HDT : Hid (decide (r.txn = x.txn) = true) := decide_eq_true ht
                        clear ht
                        go_wp2_with fail
                        go_quiet (fail)
                        go_wp2_with fail
                        exact ⟨⟨p + 1, by omega, by simp, by rw [HNX.out, HDT.out]; rfl, HND.out _⟩, by simp [intOf]; omega⟩
                      · have ht1 : (r.txn == x.txn) = false := by simpa using ht
                        have HDT : Hid (decide (r.txn = x.txn) = false) := decide_eq_false ht
                        clear ht
                        go_wp2_with fail
                        go_quiet (fail)
                        go_wp2_with fail
                        exact ⟨⟨p + 1, by omega, by simp, by rw [HNX.out, HDT.out]; rfl, HND.out _⟩, by simp [intOf]; omega⟩
                  · obtain rfl : p = rn := by omega
                    have HKN : Hid (hasRec (s.recs.take p) x.txn = hasRec s.recs x.txn) := by show _ = _; rw [List.take_of_length_le (by rw [HRN.out]; exact Nat.le_refl _)]
                    rw [HKN.out]
                    have HBN : Hid (Below W0.heap.size W0 wr) := HBV.out
                    obtain ⟨b, hb⟩ : ∃ b, b = hasRec s.recs x.txn := ⟨_, rfl⟩
                    rw [← hb] at HCS ⊢
                    clear hb
                    cases f with
                    | false =>
                      go_wp2_with fail
                      exact ⟨⟨m + 1, by omega, by simp, by rw [HCS.out]; rfl, HBN⟩, by simp [intOf]; omega⟩
                    | true =>
                      cases b with
                      | false =>
                        go_wp2_with fail
                        exact ⟨⟨m + 1, by omega, by simp, by rw [HCS.out]; rfl, HBN⟩, by simp [intOf]; omega⟩
                      | true =>
                        go_wp2_with fail
                        exact ⟨⟨m + 1, by omega, by simp, by rw [HCS.out]; rfl, HBN⟩, by simp [intOf]; omega⟩
        · obtain rfl : fb = false := by rw [HFE.out, hk1]; rfl
          clear HFE
          go_wp2_with fail
          obtain ⟨xb, hxb⟩ : ∃ xb, xb = wr.heap.size := ⟨_, rfl⟩
          rw [← hW1, ← hxb]
          rw [← hxb] at HX1
          clear hW1 hxb lp q0 q1 q2 q3 q4 q5 q6 q7 q8 q9 q10 q11 d0 d1 d2 d3 d4 d5 d6 d7 d8 hg
          have HXB : Hid (∀ W, Below W1.heap.size W1 W → W.cell? ⟨xb, 1, none⟩ = some (.int .i64 x.txn) ∧ xb < W.heap.size) := fun W hb => by
            have h := (hb.block _ (lt_of_heap HX1.out)).trans HX1.out
            exact ⟨by rw [cell_of_row _ _ _ _ _ _ h]; rfl, lt_of_heap h⟩
          clear HX1 hk1
          go_loopw [7, 8] (fun f k W => ∃ m : Nat, m ≤ j ∧ k = .int .i64 m ∧ f = .bool (toDone x && !seenB (s.says.take m) x.txn) ∧ Hid (Below W1.heap.size W1 W)) (fun _ k _ => j - (intOf k).toNat)
          case atStart => exact ⟨0, by omega, rfl, by rw [HF0.out]; try rfl, P1⟩
          case round =>
            clear P1 HF0
            obtain ⟨m, hm, rfl, rfl, HV⟩ := hrel
            have HBV : Hid (Below W0.heap.size W0 wr) := HBL.out _ HV.out
            obtain ⟨lp, q0, q1, q2, q3, q4, q5, q6, q7, q8, q9, q10, q11⟩ := HPT.out _ HBV.out
            have HBw : Hid (Below w.heap.size w wr) := HB0.out.trans (HBV.out.mono HB0.out.size)
            obtain ⟨x1, lx⟩ := HXB.out _ HV.out
            by_cases hlm : m < j
            · obtain ⟨y, hy⟩ : ∃ y, s.says[m]? = some y := ⟨_, List.getElem?_eq_getElem (by rw [← HN.out]; omega)⟩
              obtain ⟨g', o', hgg, hg', yc⟩ := HLS.out.below HBw.out m y hy
              obtain ⟨rfl, rfl⟩ : g = g' ∧ o = o' := by simpa using hgg
              have d0 : wr.cell? ⟨g, o + m * 9, none⟩ = some (.int .i64 y.kind) := yc 0 _ rfl
              have d1 : wr.cell? ⟨g, o + m * 9 + 1, none⟩ = some (.int .i64 y.txn) := yc 1 _ rfl
              have d2 : wr.cell? ⟨g, o + m * 9 + 2, none⟩ = some (.bool y.yes) := yc 2 _ rfl
              have HNX : Hid ((toDone x && !seenB (s.says.take (m + 1)) x.txn) = ((toDone x && !seenB (s.says.take m) x.txn) && !(toDone y && decide (y.txn = x.txn)))) := by
                show _ = _
                rw [seen_take hy]
                cases toDone x <;> cases seenB (s.says.take m) x.txn <;> simp
              have hm0 : (0 : Int) ≤ (m : Int) := by omega
              have hm1 : (m : Int) < (j : Int) := by omega
              have hm2 : (m : Int) < (n : Int) := by omega
              have HND : Hid (∀ nq, Below W1.heap.size W1 (wr.drewN nq)) := fun nq => HV.out.trans ⟨rfl, rfl, rfl, by simp, fun _ _ => rfl⟩
              clear hy hgg yc
              obtain ⟨f, hf⟩ : ∃ f, f = (toDone x && !seenB (s.says.take m) x.txn) := ⟨_, rfl⟩
              rw [← hf] at HNX ⊢
              clear hf
              cases f with
              | false =>
                go_wp2_with fail
                go_quiet (fail)
                go_wp2_with fail
                exact ⟨⟨m + 1, by omega, by simp, by rw [HNX.out]; rfl, HND.out _⟩, by simp [intOf]; omega⟩
              | true =>
                cases hyk : (y.kind == 3) with
                | false =>
                  have HTD : Hid (toDone y = false) := by show _ = _; unfold toDone; have : ¬ y.kind = 3 := by simpa using hyk
                                                          simp [this]
                  go_wp2_with fail
                  go_quiet (fail)
                  go_wp2_with fail
                  exact ⟨⟨m + 1, by omega, by simp, by rw [HNX.out, HTD.out]; rfl, HND.out _⟩, by simp [intOf]; omega⟩
                | true =>
                  cases hyy : y.yes with
                  | false =>
                    have HTD : Hid (toDone y = false) := by show _ = _; unfold toDone; rw [hyy]; simp
                    rw [hyy] at d2
                    clear hyy
                    go_wp2_with fail
                    go_quiet (fail)
                    go_wp2_with fail
                    exact ⟨⟨m + 1, by omega, by simp, by rw [HNX.out, HTD.out]; rfl, HND.out _⟩, by simp [intOf]; omega⟩
                  | true =>
                    have HTD : Hid (toDone y = true) := by show _ = _; unfold toDone; have : y.kind = 3 := by simpa using hyk
                                                           simp [this, hyy]
                    rw [hyy] at d2
                    clear hyy
                    by_cases ht : y.txn = x.txn
                    · have ht1 : (y.txn == x.txn) = true := by simpa using ht
                      have HDT : Hid (decide (y.txn = x.txn) = true) := decide_eq_true ht
                      clear ht
                      go_wp2_with fail
                      go_quiet (fail)
                      go_wp2_with fail
                      exact ⟨⟨m + 1, by omega, by simp, by rw [HNX.out, HTD.out, HDT.out]; rfl, HND.out _⟩, by simp [intOf]; omega⟩
                    · have ht1 : (y.txn == x.txn) = false := by simpa using ht
                      have HDT : Hid (decide (y.txn = x.txn) = false) := decide_eq_false ht
                      clear ht
                      go_wp2_with fail
                      go_quiet (fail)
                      go_wp2_with fail
                      exact ⟨⟨m + 1, by omega, by simp, by rw [HNX.out, HTD.out, HDT.out]; rfl, HND.out _⟩, by simp [intOf]; omega⟩
            · obtain rfl : m = j := by omega
              have P2 : Hid (Below W1.heap.size W1 wr) := HV.out
              obtain ⟨f, hf⟩ : ∃ f, f = (toDone x && !seenB (s.says.take m) x.txn) := ⟨_, rfl⟩
              rw [← hf] at HCS ⊢
              have HK0 : Hid (hasRec (s.recs.take 0) x.txn = false) := rfl
              clear hf
              go_wp2_with fail
              go_loopw [9, 10] (fun b k W => ∃ p : Nat, p ≤ rn ∧ k = .int .i64 p ∧ b = .bool (hasRec (s.recs.take p) x.txn) ∧ Hid (Below W1.heap.size W1 W)) (fun _ k _ => rn - (intOf k).toNat)
              case atStart => exact ⟨0, by omega, rfl, by rw [HK0.out], P2⟩
              case round =>
                clear P2 HK0 HV lp x1 lx q0 q1 q2 q3 q4 q5 q6 q7 q8 q9 q10 q11
                obtain ⟨p, hp, rfl, rfl, HV⟩ := hrel
                have HBV : Hid (Below W0.heap.size W0 wr) := HBL.out _ HV.out
                obtain ⟨lp, q0, q1, q2, q3, q4, q5, q6, q7, q8, q9, q10, q11⟩ := HPT.out _ HBV.out
                have HBw : Hid (Below w.heap.size w wr) := HB0.out.trans (HBV.out.mono HB0.out.size)
                obtain ⟨x1, lx⟩ := HXB.out _ HV.out
                by_cases hlp : p < rn
                · obtain ⟨r, hr⟩ : ∃ r, s.recs[p]? = some r := ⟨_, List.getElem?_eq_getElem (by rw [← HRN.out]; exact hlp)⟩
                  obtain ⟨rg, ro, rfl, hrg, rc⟩ := HLR.out.below HBw.out p r hr
                  have d0 : wr.cell? ⟨rg, ro + p * 10, none⟩ = some (.int .i64 r.txn) := rc 0 _ rfl
                  have HNX : Hid (hasRec (s.recs.take (p + 1)) x.txn = (hasRec (s.recs.take p) x.txn || decide (r.txn = x.txn))) := any_take hr
                  have hp0 : (0 : Int) ≤ (p : Int) := by omega
                  have hp1 : (p : Int) < (rn : Int) := by omega
                  have HND : Hid (∀ nq, Below W1.heap.size W1 (wr.drewN nq)) := fun nq => HV.out.trans ⟨rfl, rfl, rfl, by simp, fun _ _ => rfl⟩
                  clear hr rc
                  obtain ⟨b, hb⟩ : ∃ b, b = hasRec (s.recs.take p) x.txn := ⟨_, rfl⟩
                  rw [← hb] at HNX ⊢
                  clear hb
                  cases b with
                  | true =>
                    go_wp2_with fail
                    go_quiet (fail)
                    go_wp2_with fail
                    exact ⟨⟨p + 1, by omega, by simp, by rw [HNX.out]; rfl, HND.out _⟩, by simp [intOf]; omega⟩
                  | false =>
                    by_cases ht : r.txn = x.txn
                    · have ht1 : (r.txn == x.txn) = true := by simpa using ht
                      have HDT : Hid (decide (r.txn = x.txn) = true) := decide_eq_true ht
                      clear ht
                      go_wp2_with fail
                      go_quiet (fail)
                      go_wp2_with fail
                      exact ⟨⟨p + 1, by omega, by simp, by rw [HNX.out, HDT.out]; rfl, HND.out _⟩, by simp [intOf]; omega⟩
                    · have ht1 : (r.txn == x.txn) = false := by simpa using ht
                      have HDT : Hid (decide (r.txn = x.txn) = false) := decide_eq_false ht
                      clear ht
                      go_wp2_with fail
                      go_quiet (fail)
                      go_wp2_with fail
                      exact ⟨⟨p + 1, by omega, by simp, by rw [HNX.out, HDT.out]; rfl, HND.out _⟩, by simp [intOf]; omega⟩
                · obtain rfl : p = rn := by omega
                  have HKN : Hid (hasRec (s.recs.take p) x.txn = hasRec s.recs x.txn) := by show _ = _; rw [List.take_of_length_le (by rw [HRN.out]; exact Nat.le_refl _)]
                  rw [HKN.out]
                  have HBN : Hid (Below W0.heap.size W0 wr) := HBV.out
                  obtain ⟨b, hb⟩ : ∃ b, b = hasRec s.recs x.txn := ⟨_, rfl⟩
                  rw [← hb] at HCS ⊢
                  clear hb
                  cases f with
                  | false =>
                    go_wp2_with fail
                    exact ⟨⟨m + 1, by omega, by simp, by rw [HCS.out]; rfl, HBN⟩, by simp [intOf]; omega⟩
                  | true =>
                    cases b with
                    | false =>
                      go_wp2_with fail
                      exact ⟨⟨m + 1, by omega, by simp, by rw [HCS.out]; rfl, HBN⟩, by simp [intOf]; omega⟩
                    | true =>
                      go_wp2_with fail
                      exact ⟨⟨m + 1, by omega, by simp, by rw [HCS.out]; rfl, HBN⟩, by simp [intOf]; omega⟩
      · obtain rfl : j = n := by omega
        have HE : Hid (cntN s j = orderN s) := by show _ = _; rw [HN.out]; exact cnt_all s
        rw [HE.out]
        have hor : (orderN s : Int) ≤ 1000 := by have := HC9.out j; rw [HE.out] at this; omega
        have HO2 := Lib.hid (HORD.out wr HBW.out HFEW.out)
        generalize orderN s = on at HO2 hor ⊢
        go_wp2_with fail
        refine HO2.out.mono ?_
        rintro e w9 ⟨oa, ocap, rfl, hb9⟩
        have HB9 : Hid (Below w.heap.size w w9) := HBW.out.trans (hb9.mono HBW.out.size)
        clear hb9
        go_wp2_with fail
        go_ret
        exact ⟨rfl, HB9.out⟩
end Go.Proofs.Ytpcmkifgfokdpaa
