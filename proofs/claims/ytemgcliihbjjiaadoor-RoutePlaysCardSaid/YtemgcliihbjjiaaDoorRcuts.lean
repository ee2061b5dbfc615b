/- RouteCuts: the walk. -/
import Derived.Test.YtemgcliihbjjiaaDoorRsame
namespace Go.Proofs.YtemgcliihbjjiaaDoor
open Go.RowKit Go.My

/-- a row of pieces of a call's own, wherever it lies -/
def RowIs (W : World) (v : Value) (R : List Pc) : Prop := ∃ base, W.ownsRow base 35 3 v R.length (R.flatMap pcL)
theorem RowIs.below {W W' : World} {v : Value} {R : List Pc} (h : RowIs W v R) (hb : Below W.heap.size W W') : RowIs W' v R := by
  obtain ⟨b, h⟩ := h
  exact ⟨b, row_below h hb⟩
theorem RowIs.moved {w W W' : World} {r : Nat} {L : List Pc} {v : Value} {R : List Pc} (h : RowIs W v R) (hr : RtOwn w r L W) (hw : Wrote [r] W W') : RowIs W' v R := by
  obtain ⟨b, h⟩ := h
  refine ⟨b, row_wrote h hw fun g hg hm => ?_⟩
  obtain rfl : g = r := by simpa using hm
  obtain ⟨_, cur, h1⟩ := row_block h hg
  obtain ⟨c, h2⟩ := hr.type
  rw [h1] at h2
  cases h2
theorem RowIs.src {W : World} {a : Option Addr} {n cap : Nat} {R : List Pc} (h : RowIs W (.slice a n cap) R) : n = R.length ∧ SrcAny W a cap R := by
  obtain ⟨b, h⟩ := h
  obtain ⟨a', cap', e, _⟩ := row_form h
  injection e with e1 e2 e3
  subst e2
  exact ⟨rfl, row_src h rfl⟩
theorem rowLeft_is {W W' : World} {R : List Pc} {e : Ending} (h : RowLeft W R e W') : ∃ a cap, e = .returned (.slice a R.length cap) ∧ RowIs W' (.slice a R.length cap) R := by
  obtain ⟨v, rfl, ho, _⟩ := h
  obtain ⟨a, cap, rfl, _⟩ := row_form ho
  exact ⟨a, cap, rfl, _, ho⟩
theorem begins_move {l : List Pc} (h : Ok l) {f t : ByteArray} {s : Int} (he : moveErr l f t s = none) :
    (∀ x, x ∈ l → (ow pc0 (moveL l f t s) x.fr).fr = x.fr) ∧ (ow pc0 (moveL l f t s) f).fr = f ∧ (t.size ≠ 0 → (ow pc0 (moveL l f t s) t).fr = t) ∧ l.length ≤ (moveL l f t s).length ∧ (moveL l f t s).length ≤ l.length + 2 := by
  have hk := ok_move h f t s
  rw [moveL_none he] at hk ⊢
  have m := moves_of he
  obtain ⟨P, o, os, S, p⟩ := parts_of h (ranged_lt m.rg)
  exact ⟨fun x hx => ow_begin hk.up (p.begins s x hx), ow_begin hk.up (p.begins_f s), fun h0 => ow_begin hk.up (p.begins_t h0 s), (p.mov_len s).1, (p.mov_len s).2⟩
set_option maxRecDepth 100000 in
set_option maxHeartbeats 3200000 in
theorem cuts_5 (a : Option Addr) (cap : Nat) (l : List Pc) (f t : ByteArray) (s : Int) (w : World) (hg : TypeIs w) (hs : SrcAny w a cap l) (hl : (l.length : Int) ≤ 70368744177664) :
    Calls Tryd.prog 5 #[.slice a l.length cap, .agg #[.string f, .string t, .int .i64 s]] w fun e w' => e = .returned (.bool true) ∧ Below w.heap.size w w' := by
  obtain ⟨W0, hW0⟩ : ∃ W0, W0 = w.alloc (.cells #[.string f, .string t, .int .i64 s] 25) := ⟨_, rfl⟩
  obtain ⟨mb, hmb⟩ : ∃ mb, mb = w.heap.size := ⟨_, rfl⟩
  have hb0 : Below w.heap.size w W0 := by rw [hW0]; exact (Below.refl _ w).alloc (Nat.le_refl _) _
  have hm0 : W0.heap[mb]? = some (.cells #[.string f, .string t, .int .i64 s] 25 (0, 0)) := by rw [hW0, hmb]; exact heap_alloc_new w _
  have HB0 := Lib.hid hb0
  have HMB : Hid (∀ W, Below W0.heap.size W0 W → W.cell? ⟨mb, 0, none⟩ = some (.string f) ∧ W.cell? ⟨mb, 1, none⟩ = some (.string t) ∧ W.cell? ⟨mb, 2, none⟩ = some (.int .i64 s) ∧ mb < W.heap.size) := fun W hb => by
    have h := (hb.block _ (lt_of_heap hm0)).trans hm0
    exact ⟨by rw [cell_of_row _ _ _ _ _ _ h]; rfl, by rw [cell_of_row _ _ _ _ _ _ h]; rfl, by rw [cell_of_row _ _ _ _ _ _ h]; rfl, lt_of_heap h⟩
  have HH := Lib.hid (head_9 W0 (hg.below hg.lt hb0))
  have HS := Lib.hid hs
  have HOF : Hid (∀ W, Below W0.heap.size W0 W → Calls Tryd.prog 10 #[.slice a l.length cap] W (OfLeft W l)) := fun W hb => of_10 a cap l W (HS.out.below (HB0.out.trans (hb.mono HB0.out.size))) hl
  obtain ⟨n, hn⟩ : ∃ n, n = l.length := ⟨_, rfl⟩
  have HN := Lib.hid hn
  rw [← hn] at HOF ⊢
  clear hg hs hl hn hb0 hm0
  go_enter Tryd.func5, Tryd.ntmps5
  go_wp2_with fail
  rw [← hW0, ← hmb]
  clear hW0 hmb
  refine HH.out.mono ?_
  rintro e w1 ⟨rfl, hb⟩
  have HB1 := Lib.hid hb
  clear hb
  go_wp2_with fail
  refine (HOF.out _ HB1.out).mono ?_
  rintro e w2 h
  cases ho : ofErr l with
  | some q =>
    obtain ⟨rfl, hb⟩ := own_of_err h ho
    have HB2 := Lib.hid (HB0.out.trans ((HB1.out.trans (hb.mono HB1.out.size)).mono HB0.out.size))
    obtain ⟨T, v, hE⟩ := errOf_form q.1 [(routeW, q.2)]
    rw [show rErr q.1 q.2 = .iface T v from hE]
    clear hb h ho hE
    go_wp2_with fail
    go_ret
    exact ⟨rfl, HB2.out⟩
  | none =>
    obtain ⟨r, rfl, hown, hb⟩ := own_of h HB1.out ho
    have HPC := Lib.hid (own_pieces hown)
    clear hb h ho hown
    go_wp2_with fail
    refine HPC.out.mono ?_
    rintro e w3 ⟨hrow, hown, hb⟩
    obtain ⟨a8, c8, rfl, hri⟩ := rowLeft_is hrow
    rw [← HN.out] at hri ⊢
    have HR3 := Lib.hid hri
    have HO3 := Lib.hid hown
    have HMV := Lib.hid (own_move hown f t s)
    clear hrow hri hown hb HPC
    obtain ⟨m0, m1, m2, lm⟩ := HMB.out w3 HO3.out.2.1
    cases he : moveErr l f t s with
    | some q =>
      rw [he, moveL_some he] at HMV
      obtain ⟨T, v, hE⟩ := errOf_form q.1 [(routeW, q.2)]
      rw [show errQ (some q) = .iface T v from hE] at HMV
      clear he hE
      go_wp2_with fail
      refine HMV.out.mono ?_
      rintro e w4 ⟨rfl, hown, hw⟩
      have HR4 := Lib.hid (HR3.out.moved HO3.out hw)
      have HPC := Lib.hid (own_pieces hown)
      have HO4 := Lib.hid hown
      clear hown hw HMV m0 m1 m2 lm
      go_wp2_with fail
      refine HPC.out.mono ?_
      rintro e w5 ⟨hrow, hown, hb⟩
      obtain ⟨a9, c9, rfl, hri⟩ := rowLeft_is hrow
      rw [← HN.out] at hri ⊢
      have HSA := Lib.hid (same_14 a9 a8 n c9 c8 l w5 hri.src.2.lies (HR4.out.below hb).src.2.lies HN.out (by have := hown.ok.len; have := HN.out; omega))
      have HO5 := Lib.hid hown
      clear hrow hri hown hb HPC
      go_wp2_with fail
      refine HSA.out.mono ?_
      rintro e w6 ⟨rfl, hb⟩
      have HE := Lib.hid (HB0.out.trans ((HO5.out.below hb).2.1.mono HB0.out.size))
      clear hb
      go_wp2_with fail
      go_ret
      exact ⟨rfl, HE.out⟩
    | none =>
      obtain ⟨b1, b2, b3, b4, b5⟩ := begins_move HO3.out.ok he
      rw [he, show errQ none = .nilIface from rfl] at HMV
      obtain ⟨M, hM⟩ : ∃ M, M = moveL l f t s := ⟨_, rfl⟩
      rw [← hM] at HMV b1 b2 b3 b4 b5
      have HB1' := Lib.hid b1
      have HB2' := Lib.hid b2
      have HB3' := Lib.hid b3
      obtain ⟨m, hm⟩ : ∃ m, m = M.length := ⟨_, rfl⟩
      have HLM := Lib.hid hm
      rw [← HN.out, ← hm] at b4 b5
      have hmn : ¬ m < n := by omega
      have hmi : ¬ (n : Int) + 2 < (m : Int) := by omega
      have hn9 : (n : Int) ≤ 32 := by have := HO3.out.ok.len; have := HN.out; omega
      clear he b1 b2 b3 b4 b5 hM hm
      go_wp2_with fail
      refine HMV.out.mono ?_
      rintro e w4 ⟨rfl, hown, hw⟩
      have HR4 := Lib.hid (HR3.out.moved HO3.out hw)
      have HPC := Lib.hid (own_pieces hown)
      clear hown hw HMV m0 m1 m2 lm
      go_wp2_with fail
      refine HPC.out.mono ?_
      rintro e w5 ⟨hrow, hown, hb⟩
      obtain ⟨a9, c9, rfl, hri⟩ := rowLeft_is hrow
      rw [← HLM.out] at hri ⊢
      have HR5 := Lib.hid (HR4.out.below hb)
      have HO5 := Lib.hid hown
      have HOW := Lib.hid (own_owner hown f)
      obtain ⟨m0, m1, m2, lm⟩ := HMB.out w5 HO5.out.2.1
      clear hrow hri hown hb HPC
      rw [HB2'.out] at HOW
      obtain ⟨q1, hq1⟩ : ∃ q, q = (ow pc0 M f).sh := ⟨_, rfl⟩
      obtain ⟨q2, hq2⟩ : ∃ q, q = (ow pc0 M f).ep := ⟨_, rfl⟩
      rw [← hq1, ← hq2] at HOW
      clear hq1 hq2
      go_wp2_with fail
      refine HOW.out.mono ?_
      rintro e w6 ⟨rfl, hown, hb⟩
      obtain ⟨w7, hw7⟩ : ∃ w7, w7 = w6.alloc (.cells #[.string f, .int .i64 q1, .int .i64 q2] 35) := ⟨_, rfl⟩
      obtain ⟨x7, hx7⟩ : ∃ x, x = w6.heap.size := ⟨_, rfl⟩
      have hb7 : Below w6.heap.size w6 w7 := by rw [hw7]; exact (Below.refl _ w6).alloc (Nat.le_refl _) _
      have HX7 : Hid (w7.heap[x7]? = some (.cells #[.string f, .int .i64 q1, .int .i64 q2] 35 (0, 0))) := by show _ = _; rw [hw7, hx7]; exact heap_alloc_new w6 _
      have HO7 := Lib.hid (hown.below hb7)
      have HR7 := Lib.hid (HR5.out.below (hb.trans (hb7.mono hb.size)))
      have HOT := Lib.hid (own_owner HO7.out t)
      obtain ⟨y, hy⟩ : ∃ q, q = ow pc0 M t := ⟨_, rfl⟩
      rw [← hy] at HOT HB3'
      clear m0 m1 m2 lm
      obtain ⟨m0, m1, m2, lm⟩ := HMB.out w6 hown.2.1
      clear hown hb hb7 HOW hy
      go_wp2_with fail
      rw [← hw7, ← hx7]
      clear hw7 hx7
      refine HOT.out.mono ?_
      rintro e w8 ⟨rfl, hown, hb⟩
      obtain ⟨w9, hw9⟩ : ∃ w9, w9 = w8.alloc (.cells #[.string y.fr, .int .i64 y.sh, .int .i64 y.ep] 35) := ⟨_, rfl⟩
      obtain ⟨x9, hx9⟩ : ∃ x, x = w8.heap.size := ⟨_, rfl⟩
      have hb9 : Below w8.heap.size w8 w9 := by rw [hw9]; exact (Below.refl _ w8).alloc (Nat.le_refl _) _
      have HX9 : Hid (w9.heap[x9]? = some (.cells #[.string y.fr, .int .i64 y.sh, .int .i64 y.ep] 35 (0, 0))) := by show _ = _; rw [hw9, hx9]; exact heap_alloc_new w8 _
      have HX79 := Lib.hid (((hb.trans (hb9.mono hb.size)).block _ (lt_of_heap HX7.out)).trans HX7.out)
      have P0 : Hid (RtOwn W0 r M w9 ∧ RowIs w9 (.slice a8 n c8) l ∧ Below w9.heap.size w9 w9) := ⟨hown.below hb9, HR7.out.below (hb.trans (hb9.mono hb.size)), Below.refl _ _⟩
      clear hown hb hb9 HOT m0 m1 m2 lm
      go_wp2_with fail
      rw [← hw9, ← hx9]
      clear hw9 hx9
      go_loopw [12] (fun i wr => ∃ j : Nat, j ≤ n ∧ i = .int .i64 j ∧ Hid (RtOwn W0 r M wr ∧ RowIs wr (.slice a8 n c8) l ∧ Below w9.heap.size w9 wr)) (fun i _ => n - (intOf i).toNat)
      case atStart => exact ⟨0, by omega, rfl, P0⟩
      case round =>
        clear P0
        obtain ⟨j, hj, rfl, HI⟩ := hrel
        by_cases hlt : j < n
        · obtain ⟨x, hx⟩ : ∃ x, l[j]? = some x := ⟨_, List.getElem?_eq_getElem (by rw [← HN.out]; exact hlt)⟩
          obtain ⟨g, o, rfl, lg, hc⟩ := HI.out.2.1.src.2.lies j x hx
          have d0 : wr.cell? ⟨g, o + j * 3, none⟩ = some (.string x.fr) := hc 0 _ rfl
          have HOX := Lib.hid (own_owner HI.out.1 x.fr)
          rw [HB1'.out x (List.mem_of_getElem? hx)] at HOX
          have HXL := Lib.hid hx
          obtain ⟨q3, hq3⟩ : ∃ q, q = (ow pc0 M x.fr).sh := ⟨_, rfl⟩
          obtain ⟨q4, hq4⟩ : ∃ q, q = (ow pc0 M x.fr).ep := ⟨_, rfl⟩
          rw [← hq3, ← hq4] at HOX
          have hj0 : (0 : Int) ≤ (j : Int) := by omega
          have hj1 : (j : Int) < (n : Int) := by omega
          clear hx hc hq3 hq4
          go_wp2_with fail
          refine HOX.out.mono ?_
          rintro e w10 ⟨rfl, hown, hb⟩
          obtain ⟨w11, hw11⟩ : ∃ w11, w11 = w10.alloc (.cells #[.string x.fr, .int .i64 q3, .int .i64 q4] 35) := ⟨_, rfl⟩
          obtain ⟨x11, hx11⟩ : ∃ x, x = w10.heap.size := ⟨_, rfl⟩
          have hb11 : Below w10.heap.size w10 w11 := by rw [hw11]; exact (Below.refl _ w10).alloc (Nat.le_refl _) _
          have hbb := hb.trans (hb11.mono hb.size)
          have hx11' : w11.heap[x11]? = some (.cells #[.string x.fr, .int .i64 q3, .int .i64 q4] 35 (0, 0)) := by rw [hw11, hx11]; exact heap_alloc_new w10 _
          have HRR := HI.out.2.1.below hbb
          obtain ⟨g', o', e1, lg2, hc⟩ := HRR.src.2.lies j x HXL.out
          obtain ⟨rfl, rfl⟩ : g = g' ∧ o = o' := by simpa using e1
          have HD : Hid (∀ q, RtOwn W0 r M (w11.drewN q) ∧ RowIs (w11.drewN q) (.slice (some ⟨g, o, none⟩) n c8) l ∧ Below w9.heap.size w9 (w11.drewN q)) := fun q => by
            have hd : Below w11.heap.size w11 (w11.drewN q) := ⟨rfl, rfl, rfl, Nat.le_refl _, fun _ _ => rfl⟩
            exact ⟨(HI.out.1.below hbb).below hd, HRR.below hd, (HI.out.2.2.trans (hbb.mono HI.out.2.2.size)).trans (hd.mono (HI.out.2.2.trans (hbb.mono HI.out.2.2.size)).size)⟩
          go_wp2_with fail
          rw [← hw11, ← hx11]
          have d0 : w11.cell? ⟨g, o + j * 3, none⟩ = some (.string x.fr) := hc 0 _ rfl
          have y0 : w11.cell? ⟨x11, 0, none⟩ = some (.string x.fr) := by rw [cell_of_row _ _ _ _ _ _ hx11']; rfl
          have ly := lt_of_heap hx11'
          clear hown hb hw11 hx11 hb11 hbb hx11' HRR e1 hc HOX HXL
          go_quiet (fail)
          go_wp2_with fail
          exact ⟨⟨j + 1, by omega, by simp, HD.out _⟩, by simp [intOf]; omega⟩
        · obtain rfl : j = n := by omega
          have hb := HI.out.2.2
          have h7 := (hb.block _ (lt_of_heap HX79.out)).trans HX79.out
          have h9 := (hb.block _ (lt_of_heap HX9.out)).trans HX9.out
          have x70 : wr.cell? ⟨x7, 0, none⟩ = some (.string f) := by rw [cell_of_row _ _ _ _ _ _ h7]; rfl
          have x90 : wr.cell? ⟨x9, 0, none⟩ = some (.string y.fr) := by rw [cell_of_row _ _ _ _ _ _ h9]; rfl
          have l7 := lt_of_heap h7
          have l9 := lt_of_heap h9
          obtain ⟨m0, m1, m2, lm⟩ := HMB.out wr HI.out.1.2.1
          have HE := Lib.hid (HB0.out.trans (HI.out.1.2.1.mono HB0.out.size))
          clear hb h7 h9
          by_cases h0 : t.size = 0
          · obtain rfl := size_empty h0
            go_wp2_with fail
            go_ret
            exact ⟨rfl, HE.out⟩
          · have e4 := empty_ne h0
            rw [HB3'.out h0] at x90
            clear h0
            go_wp2_with fail
            go_ret
            exact ⟨rfl, HE.out⟩
end Go.Proofs.YtemgcliihbjjiaaDoor
