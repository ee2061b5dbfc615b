/- RouteWhole: the walk. -/
import Derived.Test.YtemgcliihbjjiaaDoorRone0
import Derived.Deep.RegionWith
import Derived.Deep.DeepCutAuto
namespace Go.Proofs.YtemgcliihbjjiaaDoor
open Go.RowKit Go.My

def BoxIs (w : World) (e : Pc) (b : Bool) (x y : Value) (W : World) : Prop := ∃ g, x = .pointer (some ⟨g, 0, none⟩) ∧ y = .bool b ∧ W.heap[g]? = some (.cells #[.string e.fr, .int .i64 e.sh, .int .i64 e.ep] 35 (0, 0)) ∧ Below w.heap.size w W
theorem boxIs_new {wr w' : World} {e : Pc} {b : Bool} (hb : Below wr.drew.heap.size wr.drew w') : BoxIs wr e b (.pointer (some ⟨w'.heap.size, 0, none⟩)) (.bool b) (w'.alloc (.cells #[.string e.fr, .int .i64 e.sh, .int .i64 e.ep] 35)) := by
  have h : Below wr.heap.size wr w' := (Below.refl _ wr).drew.trans hb
  exact ⟨_, rfl, rfl, heap_alloc_new w' _, h.alloc h.size _⟩
theorem boxIs_old {wr w' : World} {e : Pc} {b : Bool} (hb : Below wr.heap.size wr w') (hrow : w'.heap[wr.heap.size]? = some (.cells #[.string ⟨#[]⟩, .int .i64 0, .int .i64 0] 35 (0, 0))) :
    BoxIs wr e b (.pointer (some ⟨wr.heap.size, 0, none⟩)) (.bool b) (((w'.setCell ⟨wr.heap.size, 0, none⟩ (.string e.fr)).setCell ⟨wr.heap.size, 1, none⟩ (.int .i64 e.sh)).setCell ⟨wr.heap.size, 2, none⟩ (.int .i64 e.ep)) := by
  have h1 := heap_setCell_same _ wr.heap.size 0 _ _ (.string e.fr) hrow
  have h2 := heap_setCell_same _ wr.heap.size 1 _ _ (.int .i64 e.sh) h1
  have h3 := heap_setCell_same _ wr.heap.size 2 _ _ (.int .i64 e.ep) h2
  have hw := (((Wrote.of_below (S := []) hb).setCell (p := ⟨wr.heap.size, 0, none⟩) (.inr (Nat.le_refl _)) (.string e.fr)).setCell (p := ⟨wr.heap.size, 1, none⟩) (.inr (Nat.le_refl _)) (.int .i64 e.sh)).setCell (p := ⟨wr.heap.size, 2, none⟩) (.inr (Nat.le_refl _)) (.int .i64 e.ep)
  exact ⟨_, rfl, rfl, h3, hw.below (Nat.le_refl _) (by simp)⟩
def BoolIn (w : World) (b : Bool) (v : Value) (W : World) : Prop := v = .bool b ∧ Below w.heap.size w W
theorem boolIn_drewN (w : World) (b : Bool) (q : Nat) : BoolIn w b (.bool b) (w.drewN q) := ⟨rfl, ⟨rfl, rfl, rfl, Nat.le_refl _, fun _ _ => rfl⟩⟩
set_option maxRecDepth 100000 in
set_option maxHeartbeats 6400000 in
theorem whole_6 (a ma ka : Option Addr) (cap mc kc : Nat) (l : List Pc) (ms : List Mv) (ks : List ByteArray) (w : World) (hg : TypeIs w) (hs : SrcAny w a cap l) (hl : (l.length : Int) ≤ 70368744177664)
    (hms : Lies w ma 3 mvL ms) (hks : Lies w ka 1 kyL ks) (hml : (ms.length : Int) ≤ 70368744177664) (hkl : (ks.length : Int) ≤ 70368744177664) :
    Calls Tryd.prog 6 #[.slice a l.length cap, .slice ma ms.length mc, .slice ka ks.length kc] w fun e w' => e = .returned (.bool true) ∧ Below w.heap.size w w' := by
  have HH := Lib.hid (head_9 w hg)
  have HS := Lib.hid hs
  have HMS := Lib.hid hms
  have HKS := Lib.hid hks
  have HOF : Hid (∀ W, Below w.heap.size w W → Calls Tryd.prog 10 #[.slice a l.length cap] W (OfLeft W l)) := fun W hb => of_10 a cap l W (HS.out.below hb) hl
  obtain ⟨n, hn⟩ : ∃ n, n = l.length := ⟨_, rfl⟩
  obtain ⟨mn, hmn⟩ : ∃ n, n = ms.length := ⟨_, rfl⟩
  obtain ⟨kn, hkn⟩ : ∃ n, n = ks.length := ⟨_, rfl⟩
  have HMN := Lib.hid hmn
  have HKN := Lib.hid hkn
  rw [← hn] at HOF ⊢
  rw [← hmn] at hml ⊢
  rw [← hkn] at hkl ⊢
  clear hg hs hl hn hms hks hmn hkn
  go_enter Tryd.func6, Tryd.ntmps6
  go_wp2_with fail
  refine HH.out.mono ?_
  rintro e w1 ⟨rfl, hb⟩
  have HB1 := Lib.hid hb
  clear hb
  go_wp2_with fail
  refine (HOF.out _ HB1.out).mono ?_
  rintro e w2 h
  cases ho : ofErr l with
  | some q =>
    obtain ⟨rfl, hb⟩ := own_of_err h ho
    have HB2 := Lib.hid (HB1.out.trans (hb.mono HB1.out.size))
    obtain ⟨T, v, hE⟩ := errOf_form q.1 [(routeW, q.2)]
    rw [show rErr q.1 q.2 = .iface T v from hE]
    clear hb h ho hE
    go_wp2_with fail
    go_ret
    exact ⟨rfl, HB2.out⟩
  | none =>
    obtain ⟨r, rfl, hown, hb⟩ := own_of h HB1.out ho
    have HO2 := Lib.hid hown
    clear hb h ho hown
    by_cases hm60 : (60 : Int) < (mn : Int)
    · go_wp2_with fail
      go_ret
      exact ⟨rfl, HO2.out.2.1⟩
    by_cases hk60 : (60 : Int) < (kn : Int)
    · go_wp2_with fail
      go_ret
      exact ⟨rfl, HO2.out.2.1⟩
    have hm9 : (mn : Int) ≤ 60 := by omega
    have hk9 : (kn : Int) ≤ 60 := by omega
    clear hml hkl
    have P0 : Hid (RtOwn w r (mvsL l (ms.take 0)) w2) := HO2.out
    go_wp2_with fail
    go_loopw [10] (fun i wr => ∃ j : Nat, j ≤ mn ∧ i = .int .i64 j ∧ Hid (RtOwn w r (mvsL l (ms.take j)) wr)) (fun i _ => mn - (intOf i).toNat)
    case atStart => exact ⟨0, by omega, rfl, P0⟩
    case round =>
      clear P0
      obtain ⟨j, hj, rfl, HI⟩ := hrel
      by_cases hlt : j < mn
      · obtain ⟨m, hm⟩ : ∃ x, ms[j]? = some x := ⟨_, List.getElem?_eq_getElem (by rw [← HMN.out]; exact hlt)⟩
        obtain ⟨g, o, rfl, lg, hc⟩ := (HMS.out.below HI.out.2.1).at hm
        have d0 : wr.cell? ⟨g, o + j * 3, none⟩ = some (.string m.fr) := hc 0 _ rfl
        have d1 : wr.cell? ⟨g, o + j * 3 + 1, none⟩ = some (.string m.tt) := hc 1 _ rfl
        have d2 : wr.cell? ⟨g, o + j * 3 + 2, none⟩ = some (.int .i64 m.sh) := hc 2 _ rfl
        have hj0 : (0 : Int) ≤ (j : Int) := by omega
        have hj1 : (j : Int) < (mn : Int) := by omega
        have hd : Below wr.heap.size wr wr.drew := ⟨rfl, rfl, rfl, Nat.le_refl _, fun _ _ => rfl⟩
        have HMV := Lib.hid (own_move (HI.out.below hd) m.fr m.tt m.sh)
        have HSN := Lib.hid (mvs_snoc l (ms.take j) m)
        have HTK := Lib.hid (take_snoc hm)
        have HM := Lib.hid hm
        clear hm hc hd
        go_wp2_with fail
        refine wp_region_tail 16 (by kernel_rfl) (by kernel_rfl) ?_
        simp only [List.take_succ_cons, List.take_zero, List.drop_succ_cons, List.drop_zero]
        repeat still_step
        refine wpStill_nil ?_
        go_wp2_with fail
        refine HMV.out.mono ?_
        rintro e w3 ⟨rfl, hown, _⟩
        obtain ⟨L, hL⟩ : ∃ L, L = mvsL l (ms.take (j + 1)) := ⟨_, rfl⟩
        have HLQ := Lib.hid hL
        have hown : RtOwn w r L w3 := by rw [hL, HTK.out, HSN.out]; exact hown
        have HPC := Lib.hid (own_pieces hown)
        have HOK := Lib.hid hown.ok
        clear hown hL HMV HSN HTK d0 d1 d2 lg
        go_wp2_with fail
        refine HPC.out.mono ?_
        rintro e w4 ⟨hrow, hown, hb⟩
        obtain ⟨a11, c11, rfl, hri⟩ := rowLeft_is hrow
        obtain ⟨q, hq⟩ : ∃ q, q = L.length := ⟨_, rfl⟩
        have HQ := Lib.hid hq
        have hq9 : (q : Int) ≤ 32 := by have := HOK.out.len; omega
        have HOF2 := Lib.hid (of_10 a11 c11 L w4 hri.src.2 (by have := HOK.out.len; omega))
        rw [← hq] at hri HOF2 ⊢
        have HR4 := Lib.hid hri
        have HO4 := Lib.hid hown
        clear hrow hri hown hb hq HPC
        go_wp2_with fail
        refine HOF2.out.mono ?_
        rintro e w5 h
        obtain ⟨r2, rfl, hown2, hb⟩ := own_of h HO4.out.2.1 (ofErr_ok HOK.out)
        have HR5 := Lib.hid (HR4.out.below hb)
        have HO5 := Lib.hid (HO4.out.below hb)
        have HPC2 := Lib.hid (own_pieces hown2)
        clear h hown2 hb HOF2
        go_wp2_with fail
        refine HPC2.out.mono ?_
        rintro e w6 ⟨hrow, _, hb⟩
        obtain ⟨a12, c12, rfl, hri⟩ := rowLeft_is hrow
        rw [← HQ.out] at hri ⊢
        have HR6 := Lib.hid (HR5.out.below hb)
        have HO6 := Lib.hid (HO5.out.below hb)
        have HSA := Lib.hid (same_14 a12 a11 q c12 c11 L w6 hri.src.2.lies HR6.out.src.2.lies HQ.out (by omega))
        clear hrow hri hb HPC2
        go_wp2_with fail
        refine HSA.out.mono ?_
        rintro e w7 ⟨rfl, hb⟩
        have HR7 := Lib.hid (HR6.out.below hb)
        have HO7 := Lib.hid (HO6.out.below hb)
        clear hb HSA
        obtain ⟨g', o', e1, lg, hc⟩ := (HMS.out.below HO7.out.2.1).at HM.out
        obtain ⟨rfl, rfl⟩ : g = g' ∧ o = o' := by simpa using e1
        have d0 : w7.cell? ⟨g, o + j * 3, none⟩ = some (.string m.fr) := hc 0 _ rfl
        have d1 : w7.cell? ⟨g, o + j * 3 + 1, none⟩ = some (.string m.tt) := hc 1 _ rfl
        clear e1 hc
        have HIN : Hid (∀ k, oneB L m.fr m.tt = true → inB m.fr m.tt k = true → ow pc0 L k = oneX L m.fr m.tt) := fun k h1 hk => by rw [oneX_in h1]; exact one_in HOK.out h1 hk
        obtain ⟨x, hx⟩ : ∃ x, x = oneX L m.fr m.tt := ⟨_, rfl⟩
        obtain ⟨ib, hib⟩ : ∃ ib, ib = oneB L m.fr m.tt := ⟨_, rfl⟩
        rw [← hx, ← hib] at HIN
        have HCALL : Hid (∀ W, Below w7.heap.size w7 W → Calls Tryd.prog 15 #[.pointer (some ⟨r, 0, none⟩), .string m.fr, .string m.tt] W fun e w' => e = .returned (.tuple #[.agg #[.string x.fr, .int .i64 x.sh, .int .i64 x.ep], .bool ib]) ∧ Below W.heap.size W w') := fun W hb => by
          have h := own_oneB (HO7.out.below hb) m.fr m.tt
          rw [← hx, ← hib] at h
          exact h
        have HCALL2 : Hid (Calls Tryd.prog 15 #[.pointer (some ⟨r, 0, none⟩), .string m.fr, .string m.tt] (w7.drew.alloc (.cells #[.string ⟨#[]⟩, .int .i64 0, .int .i64 0] 35)) fun e w' => e = .returned (.tuple #[.agg #[.string x.fr, .int .i64 x.sh, .int .i64 x.ep], .bool ib]) ∧
            Below w7.heap.size w7 w' ∧ w'.heap[w7.heap.size]? = some (.cells #[.string ⟨#[]⟩, .int .i64 0, .int .i64 0] 35 (0, 0)) ∧ w'.cell? ⟨w7.heap.size, 0, none⟩ = some (.string ⟨#[]⟩) ∧ w'.cell? ⟨w7.heap.size, 1, none⟩ = some (.int .i64 0) ∧ w'.cell? ⟨w7.heap.size, 2, none⟩ = some (.int .i64 0) ∧
            (∀ i, w'.frozen? ⟨w7.heap.size, i, none⟩ = false) ∧ w7.heap.size < w'.heap.size) := by
          have hbA : Below w7.heap.size w7 (w7.drew.alloc (.cells #[.string ⟨#[]⟩, .int .i64 0, .int .i64 0] 35)) := (Below.refl _ w7).drew.alloc (Nat.le_refl _) _
          refine (HCALL.out _ hbA).mono ?_
          rintro r w' ⟨rfl, hb⟩
          have hrow : w'.heap[w7.heap.size]? = some (.cells #[.string ⟨#[]⟩, .int .i64 0, .int .i64 0] 35 (0, 0)) := (hb.block _ (by simp)).trans (heap_alloc_new w7.drew _)
          exact ⟨rfl, hbA.trans (hb.mono hbA.size), hrow, by rw [cell_of_row _ _ _ _ _ _ hrow]; rfl, by rw [cell_of_row _ _ _ _ _ _ hrow]; rfl, by rw [cell_of_row _ _ _ _ _ _ hrow]; rfl, fun i => by simp [World.frozen?, hrow], lt_of_heap hrow⟩
        clear hx hib
        go_upto_region 13 with fail
        go_cut [14, 15] from 86 to 100 (fun u v wx => BoxIs w7 x ib u v wx)
        case first =>
          go_region_with (go_at_call 15; first | (refine (HCALL.out _ (Below.refl _ w7).drew).mono ?_; rintro r w' ⟨rfl, hb⟩) | (refine HCALL2.out.mono ?_; rintro r w' ⟨rfl, hb, hrow, c0, c1, c2, fz, hlt2⟩))
          all_goals (go_wp2_with fail; go_meet; first | exact boxIs_new hb | exact boxIs_old hb hrow)
        case rest =>
          obtain ⟨xb, rfl, rfl, hrow, hb⟩ := hcut
          obtain ⟨w8, rfl⟩ : ∃ x : World, x = wc := ⟨_, rfl⟩
          have HX8 := Lib.hid hrow
          have HO8 := Lib.hid (HO7.out.below hb)
          have HR8 := Lib.hid (HR7.out.below hb)
          clear hrow hb HCALL HCALL2 d0 d1 lg
          have P1 : Hid (RtOwn w r L w8 ∧ RowIs w8 (.slice a11 q c11) L ∧ Below w8.heap.size w8 w8) := ⟨HO8.out, HR8.out, Below.refl _ _⟩
          go_wp2_with fail
          go_loopw [16] (fun i wr => ∃ j : Nat, j ≤ kn ∧ i = .int .i64 j ∧ Hid (RtOwn w r L wr ∧ RowIs wr (.slice a11 q c11) L ∧ Below w8.heap.size w8 wr)) (fun i _ => kn - (intOf i).toNat)
          case atStart => exact ⟨0, by omega, rfl, P1⟩
          case round =>
            clear P1
            obtain ⟨j2, hj2, rfl, HJ⟩ := hrel
            by_cases hlt2 : j2 < kn
            · obtain ⟨k, hk⟩ : ∃ x, ks[j2]? = some x := ⟨_, List.getElem?_eq_getElem (by rw [← HKN.out]; exact hlt2)⟩
              obtain ⟨g2, o2, rfl, lg2, hc2⟩ := (HKS.out.below HJ.out.1.2.1).at hk
              have k0 : wr.cell? ⟨g2, o2 + j2, none⟩ = some (.string k) := by have := hc2 0 _ rfl; simpa using this
              have hj20 : (0 : Int) ≤ (j2 : Int) := by omega
              have hj21 : (j2 : Int) < (kn : Int) := by omega
              have HOW := Lib.hid (own_owner HJ.out.1 k)
              have HBL := Lib.hid (ow_below L k)
              have HLA := Lib.hid (ow_latest HOK.out k)
              have HIK : Hid (ib = true → inB m.fr m.tt k = true → ow pc0 L k = x) := HIN.out k
              obtain ⟨y, hy⟩ : ∃ y, y = ow pc0 L k := ⟨_, rfl⟩
              rw [← hy] at HOW HBL HLA HIK
              have HK := Lib.hid hk
              clear hk hc2 hy
              go_wp2_with fail
              refine HOW.out.mono ?_
              rintro e w9 ⟨rfl, hown, hb⟩
              obtain ⟨w10, hw10⟩ : ∃ w10, w10 = w9.alloc (.cells #[.string y.fr, .int .i64 y.sh, .int .i64 y.ep] 35) := ⟨_, rfl⟩
              obtain ⟨x10, hx10⟩ : ∃ x, x = w9.heap.size := ⟨_, rfl⟩
              have hb10 : Below w9.heap.size w9 w10 := by rw [hw10]; exact (Below.refl _ w9).alloc (Nat.le_refl _) _
              have HX10 : Hid (w10.heap[x10]? = some (.cells #[.string y.fr, .int .i64 y.sh, .int .i64 y.ep] 35 (0, 0))) := by show _ = _; rw [hw10, hx10]; exact heap_alloc_new w9 _
              have hbb := hb.trans (hb10.mono hb.size)
              have HST : Hid (RtOwn w r L w10 ∧ RowIs w10 (.slice a11 q c11) L ∧ Below w8.heap.size w8 w10) := ⟨HJ.out.1.below hbb, HJ.out.2.1.below hbb, HJ.out.2.2.trans (hbb.mono HJ.out.2.2.size)⟩
              have HKC : Hid (∀ W, Below w10.heap.size w10 W → W.cell? ⟨g2, o2 + j2, none⟩ = some (.string k) ∧ g2 < W.heap.size) := fun W hb => by
                obtain ⟨g', o', e1, l1, hc⟩ := (HKS.out.below (HST.out.1.below hb).2.1).at HK.out
                obtain ⟨rfl, rfl⟩ : g2 = g' ∧ o2 = o' := by simpa using e1
                exact ⟨by have := hc 0 _ rfl; simpa using this, l1⟩
              have HMC : Hid (∀ W, Below w10.heap.size w10 W → W.cell? ⟨g, o + j * 3, none⟩ = some (.string m.fr) ∧ W.cell? ⟨g, o + j * 3 + 1, none⟩ = some (.string m.tt) ∧ g < W.heap.size) := fun W hb => by
                obtain ⟨g', o', e1, l1, hc⟩ := (HMS.out.below (HST.out.1.below hb).2.1).at HM.out
                obtain ⟨rfl, rfl⟩ : g = g' ∧ o = o' := by simpa using e1
                exact ⟨hc 0 _ rfl, hc 1 _ rfl, l1⟩
              have HBX : Hid (∀ W, Below w10.heap.size w10 W → W.cell? ⟨xb, 0, none⟩ = some (.string x.fr) ∧ W.cell? ⟨xb, 1, none⟩ = some (.int .i64 x.sh) ∧ W.cell? ⟨xb, 2, none⟩ = some (.int .i64 x.ep) ∧ xb < W.heap.size ∧ W.cell? ⟨x10, 0, none⟩ = some (.string y.fr) ∧ W.cell? ⟨x10, 1, none⟩ = some (.int .i64 y.sh) ∧ W.cell? ⟨x10, 2, none⟩ = some (.int .i64 y.ep) ∧ x10 < W.heap.size) := fun W hb => by
                have h1 := ((HST.out.2.2.trans (hb.mono HST.out.2.2.size)).block _ (lt_of_heap HX8.out)).trans HX8.out
                have h2 := (hb.block _ (lt_of_heap HX10.out)).trans HX10.out
                exact ⟨by rw [cell_of_row _ _ _ _ _ _ h1]; rfl, by rw [cell_of_row _ _ _ _ _ _ h1]; rfl, by rw [cell_of_row _ _ _ _ _ _ h1]; rfl, lt_of_heap h1, by rw [cell_of_row _ _ _ _ _ _ h2]; rfl, by rw [cell_of_row _ _ _ _ _ _ h2]; rfl, by rw [cell_of_row _ _ _ _ _ _ h2]; rfl, lt_of_heap h2⟩
              clear hown hb hb10 hbb HOW HX10 k0 lg2
              go_upto_region 18 with fail
              rw [← hw10, ← hx10]
              clear hw10 hx10
              obtain ⟨nb, hnb⟩ : ∃ nb, nb = inB m.fr m.tt k := ⟨_, rfl⟩
              have HNQ := Lib.hid hnb
              rw [← hnb] at HIK
              clear hnb
              go_cut [18] from 113 to 142 (fun v wx => BoolIn w10 nb v wx)
              case first =>
                obtain ⟨k0, lk⟩ := HKC.out w10 (Below.refl _ _)
                obtain ⟨d0, d1, lm⟩ := HMC.out w10 (Below.refl _ _)
                cases h1 : lessK k m.fr with
                | true =>
                  have b1 : Op.bytesLess k.toList m.fr.toList = true := h1
                  have HNB : Hid (inB m.fr m.tt k = false) := by show _ = _; unfold inB; rw [h1]; rfl
                  clear h1
                  go_wp2_with fail
                  go_quiet (fail)
                  go_wp2_with fail
                  go_meet
                  show BoolIn w10 nb _ _
                  rw [HNQ.out, HNB.out]
                  exact boolIn_drewN _ _ _
                | false =>
                  have b1 : Op.bytesLess k.toList m.fr.toList = false := h1
                  by_cases h0 : m.tt.size = 0
                  · have HNB : Hid (inB m.fr m.tt k = true) := by show _ = _; unfold inB; rw [h1]; simp [h0]
                    have e5 : (m.tt.toList == []) = true := by rw [size_empty h0, Lib.toList_data]; rfl
                    clear h1 h0
                    go_wp2_with fail
                    go_quiet (fail)
                    go_wp2_with fail
                    go_meet
                    show BoolIn w10 nb _ _
                    rw [HNQ.out, HNB.out]
                    exact boolIn_drewN _ _ _
                  · have e4 := empty_ne h0
                    obtain ⟨b2, h2⟩ : ∃ b2, Op.bytesLess k.toList m.tt.toList = b2 := ⟨_, rfl⟩
                    have HNB : Hid (inB m.fr m.tt k = b2) := by show _ = _; unfold inB; rw [h1, show lessK k m.tt = b2 from h2]; simp [h0]
                    clear h1 h0
                    go_wp2_with fail
                    go_quiet (fail)
                    go_wp2_with fail
                    go_meet
                    show BoolIn w10 nb _ _
                    rw [HNQ.out, HNB.out]
                    exact boolIn_drewN _ _ _
              case rest =>
                obtain ⟨rfl, hb⟩ := hcut
                obtain ⟨w11, rfl⟩ : ∃ x : World, x = wc := ⟨_, rfl⟩
                have HB11 := Lib.hid hb
                clear hb
                obtain ⟨k0, lk⟩ := HKC.out w11 HB11.out
                obtain ⟨xb0, xb1, xb2, lx, y0, y1, y2, ly⟩ := HBX.out w11 HB11.out
                have hgt := gtF HBL.out
                go_upto_region 19 with fail
                go_cut [160] from 143 to 159 (fun v wx => BoolIn w11 false v wx)
                case first =>
                  cases ib with
                  | false =>
                    go_wp2_with fail
                    go_quiet (fail)
                    go_wp2_with fail
                    go_meet
                    exact boolIn_drewN _ _ _
                  | true =>
                    cases nb with
                    | false =>
                      go_wp2_with fail
                      go_quiet (fail)
                      go_wp2_with fail
                      go_meet
                      exact boolIn_drewN _ _ _
                    | true =>
                      obtain rfl := HIK.out (by simp) (by simp)
                      go_wp2_with fail
                      go_quiet (fail)
                      go_wp2_with fail
                      go_meet
                      exact boolIn_drewN _ _ _
                case rest =>
                  obtain ⟨rfl, hb⟩ := hcut
                  obtain ⟨w12, rfl⟩ : ∃ x : World, x = wc := ⟨_, rfl⟩
                  have HB12 := Lib.hid (HB11.out.trans (hb.mono HB11.out.size))
                  clear hb k0 lk xb0 xb1 xb2 lx y0 y1 y2 ly hgt
                  have P2 : Hid (Below w12.heap.size w12 w12) := Below.refl _ _
                  go_wp2_with fail
                  go_loopw [19] (fun i wr => ∃ j : Nat, j ≤ q ∧ i = .int .i64 j ∧ Hid (Below w12.heap.size w12 wr)) (fun i _ => q - (intOf i).toNat)
                  case atStart => exact ⟨0, by omega, rfl, P2⟩
                  case round =>
                    clear P2
                    obtain ⟨j3, hj3, rfl, HN3⟩ := hrel
                    have HBW : Hid (Below w10.heap.size w10 wr) := HB12.out.trans (HN3.out.mono HB12.out.size)
                    have HRW := Lib.hid (HST.out.2.1.below HBW.out)
                    by_cases hlt3 : j3 < q
                    · obtain ⟨z, hz⟩ : ∃ z, L[j3]? = some z := ⟨_, List.getElem?_eq_getElem (by rw [← HQ.out]; exact hlt3)⟩
                      obtain ⟨g3, o3, rfl, lg3, hc3⟩ := HRW.out.src.2.lies j3 z hz
                      have z0 : wr.cell? ⟨g3, o3 + j3 * 3, none⟩ = some (.string z.fr) := hc3 0 _ rfl
                      obtain ⟨k0, lk⟩ := HKC.out wr HBW.out
                      obtain ⟨_, _, _, _, y0, _, _, ly⟩ := HBX.out wr HBW.out
                      have hj30 : (0 : Int) ≤ (j3 : Int) := by omega
                      have hj31 : (j3 : Int) < (q : Int) := by omega
                      have HD : Hid (∀ nq, Below w12.heap.size w12 (wr.drewN nq)) := fun nq => HN3.out.trans ⟨rfl, rfl, rfl, Nat.le_refl _, fun _ _ => rfl⟩
                      have HLZ := Lib.hid (HLA.out z (List.mem_of_getElem? hz))
                      clear hz hc3
                      cases h1 : lessK k z.fr with
                      | true =>
                        have hle : (Op.bytesLess z.fr.toList k.toList || z.fr.toList == k.toList) = false := by rw [leK, h1]; rfl
                        clear h1
                        go_wp2_with fail
                        go_quiet (fail)
                        go_wp2_with fail
                        exact ⟨⟨j3 + 1, by omega, by simp, HD.out _⟩, by simp [intOf]; omega⟩
                      | false =>
                        have hle : (Op.bytesLess z.fr.toList k.toList || z.fr.toList == k.toList) = true := by rw [leK, h1]; rfl
                        have hgt2 := gtF (HLZ.out h1)
                        clear h1
                        go_wp2_with fail
                        go_quiet (fail)
                        go_wp2_with fail
                        exact ⟨⟨j3 + 1, by omega, by simp, HD.out _⟩, by simp [intOf]; omega⟩
                    · obtain rfl : j3 = q := by omega
                      have HNX : Hid (RtOwn w r L wr ∧ RowIs wr (.slice a11 j3 c11) L ∧ Below w8.heap.size w8 wr) := ⟨HST.out.1.below HBW.out, HRW.out, HST.out.2.2.trans (HBW.out.mono HST.out.2.2.size)⟩
                      go_wp2_with fail
                      exact ⟨⟨j2 + 1, by omega, by simp, HNX⟩, by simp [intOf]; omega⟩
            · obtain rfl : j2 = kn := by omega
              have HNX : Hid (RtOwn w r (mvsL l (ms.take (j + 1))) wr) := by show RtOwn _ _ _ _; rw [← HLQ.out]; exact HJ.out.1
              go_wp2_with fail
              exact ⟨⟨j + 1, by omega, by simp, HNX⟩, by simp [intOf]; omega⟩
      · obtain rfl : j = mn := by omega
        go_wp2_with fail
        go_ret
        exact ⟨rfl, HI.out.2.1⟩
end Go.Proofs.YtemgcliihbjjiaaDoor
