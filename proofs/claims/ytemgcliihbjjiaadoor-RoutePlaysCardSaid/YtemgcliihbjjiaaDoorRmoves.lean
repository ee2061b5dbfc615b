/- RouteMoves: the walk. -/
import Derived.Test.YtemgcliihbjjiaaDoorRcuts
namespace Go.Proofs.YtemgcliihbjjiaaDoor
open Go.RowKit Go.My

theorem Lies.at {α : Type} {w : World} {a : Option Addr} {c : Nat} {f : α → List Value} {l : List α} (h : Lies w a c f l) {i : Nat} {x : α} (hi : l[i]? = some x) : ∃ g o, a = some ⟨g, o, none⟩ ∧ g < w.heap.size ∧ ∀ (j : Nat) v, (f x)[j]? = some v → w.cell? ⟨g, o + i * c + j, none⟩ = some v := h i x hi
def WasIs (wS : World) (L : List Pc) (ks : List ByteArray) (v : Value) (W : World) : Prop := Below wS.heap.size wS W ∧ W.ownsRow wS.heap.size 35 3 v (ks.map (ow pc0 L)).length ((ks.map (ow pc0 L)).flatMap pcL)
theorem was_step {wS : World} {L : List Pc} {ks : List ByteArray} {v : Value} {W W2 W3 : World} {v' : Value} {k : ByteArray} (h : WasIs wS L ks v W) (hb : Below W.heap.size W W2)
    (hown : W3.ownsRow wS.heap.size 35 3 v' (ks.map (ow pc0 L) ++ [ow pc0 L k]).length ((ks.map (ow pc0 L) ++ [ow pc0 L k]).flatMap pcL)) (hw : W2.grownBy W3 v.ownBlock) : WasIs wS L (ks ++ [k]) v' W3 := by
  refine ⟨?_, by rw [List.map_append]; exact hown⟩
  have h2 := h.1.trans (hb.mono h.1.size)
  have hW : Wrote v.ownBlock.toList W2 W3 := Wrote.of_grown hw
  exact h2.trans (hW.below h2.size fun g hg' => by
    simp only [Option.mem_toList] at hg'
    exact (row_block h.2 hg').1)
theorem WasIs.below {wS : World} {L : List Pc} {ks : List ByteArray} {v : Value} {W W2 : World} (h : WasIs wS L ks v W) (hb : Below W.heap.size W W2) : WasIs wS L ks v W2 := ⟨h.1.trans (hb.mono h.1.size), row_below h.2 hb⟩
/-- The fit of an owner. -/
theorem ow_ep {l : List Pc} (h : Ok l) (k : ByteArray) : IntKind.i64.wrap ((ow pc0 l k).ep + 1) = (ow pc0 l k).ep + 1 := by
  have h2 := h.fit _ (ow_ok_mem h k)
  unfold fitB at h2
  simp only [Bool.and_eq_true, decide_eq_true_eq] at h2
  exact IntWalk.i64_in _ (by omega)
def mvsL (L : List Pc) (ms : List Mv) : List Pc := ms.foldl (fun L m => moveL L m.fr m.tt m.sh) L
theorem mvs_snoc (L : List Pc) (ms : List Mv) (m : Mv) : mvsL L (ms ++ [m]) = moveL (mvsL L ms) m.fr m.tt m.sh := by unfold mvsL; rw [List.foldl_append]; rfl
theorem take_snoc {α : Type} {l : List α} {m : Nat} {s : α} (h : l[m]? = some s) : l.take (m + 1) = l.take m ++ [s] := by rw [List.take_add_one, h]; rfl
set_option maxRecDepth 100000 in
set_option maxHeartbeats 6400000 in
theorem moves_3 (a ma ka : Option Addr) (cap mc kc : Nat) (l : List Pc) (ms : List Mv) (ks : List ByteArray) (f t : ByteArray) (s : Int) (w : World) (hg : TypeIs w) (hs : SrcAny w a cap l) (hl : (l.length : Int) ≤ 70368744177664)
    (hms : Lies w ma 3 mvL ms) (hks : Lies w ka 1 kyL ks) (hml : (ms.length : Int) ≤ 70368744177664) (hkl : (ks.length : Int) ≤ 70368744177664) :
    Calls Tryd.prog 3 #[.slice a l.length cap, .slice ma ms.length mc, .agg #[.string f, .string t, .int .i64 s], .slice ka ks.length kc] w fun e w' => e = .returned (.bool true) ∧ Below w.heap.size w w' := by
  obtain ⟨W0, hW0⟩ : ∃ W0, W0 = w.alloc (.cells #[.string f, .string t, .int .i64 s] 25) := ⟨_, rfl⟩
  obtain ⟨mb, hmb⟩ : ∃ mb, mb = w.heap.size := ⟨_, rfl⟩
  have hb0 : Below w.heap.size w W0 := by rw [hW0]; exact (Below.refl _ w).alloc (Nat.le_refl _) _
  have hm0 : W0.heap[mb]? = some (.cells #[.string f, .string t, .int .i64 s] 25 (0, 0)) := by rw [hW0, hmb]; exact heap_alloc_new w _
  have HB0 := Lib.hid hb0
  have HMB : Hid (∀ W, Below W0.heap.size W0 W → W.cell? ⟨mb, 0, none⟩ = some (.string f) ∧ W.cell? ⟨mb, 1, none⟩ = some (.string t) ∧ W.cell? ⟨mb, 2, none⟩ = some (.int .i64 s) ∧ mb < W.heap.size) := fun W hb => by
    have h := (hb.block _ (lt_of_heap hm0)).trans hm0
    exact ⟨by rw [cell_of_row _ _ _ _ _ _ h]; rfl, by rw [cell_of_row _ _ _ _ _ _ h]; rfl, by rw [cell_of_row _ _ _ _ _ _ h]; rfl, lt_of_heap h⟩
  have HH := Lib.hid (head_9 W0 (hg.below hg.lt hb0))
  have HS := Lib.hid hs
  have HMS := Lib.hid (hms.below hb0)
  have HKS := Lib.hid (hks.below hb0)
  have HOF : Hid (∀ W, Below W0.heap.size W0 W → Calls Tryd.prog 10 #[.slice a l.length cap] W (OfLeft W l)) := fun W hb => of_10 a cap l W (HS.out.below (HB0.out.trans (hb.mono HB0.out.size))) hl
  obtain ⟨n, hn⟩ : ∃ n, n = l.length := ⟨_, rfl⟩
  obtain ⟨mn, hmn⟩ : ∃ n, n = ms.length := ⟨_, rfl⟩
  obtain ⟨kn, hkn⟩ : ∃ n, n = ks.length := ⟨_, rfl⟩
  have HMN := Lib.hid hmn
  have HKN := Lib.hid hkn
  rw [← hn] at HOF ⊢
  rw [← hmn] at hml ⊢
  rw [← hkn] at hkl ⊢
  clear hg hs hl hn hb0 hm0 hms hks hmn hkn
  go_enter Tryd.func3, Tryd.ntmps3
  go_wp2_with fail
  rw [← hW0, ← hmb]
  clear hW0 hmb
  refine HH.out.mono ?_
  rintro e w1 ⟨rfl, hb⟩
  have HB1 := Lib.hid hb
  clear hb
  go_wp2_with fail
  refine (HOF.out _ HB1.out).mono ?_
  rintro e w2 h
  cases ho : ofErr l with
  | some q =>
    obtain ⟨rfl, hb⟩ := own_of_err h ho
    have HB2 := Lib.hid (HB0.out.trans ((HB1.out.trans (hb.mono HB1.out.size)).mono HB0.out.size))
    obtain ⟨T, v, hE⟩ := errOf_form q.1 [(routeW, q.2)]
    rw [show rErr q.1 q.2 = .iface T v from hE]
    clear hb h ho hE
    go_wp2_with fail
    go_ret
    exact ⟨rfl, HB2.out⟩
  | none =>
    obtain ⟨r, rfl, hown, hb⟩ := own_of h HB1.out ho
    have HO2 := Lib.hid hown
    clear hb h ho hown
    by_cases hm60 : (60 : Int) < (mn : Int)
    · go_wp2_with fail
      go_ret
      exact ⟨rfl, HB0.out.trans (HO2.out.2.1.mono HB0.out.size)⟩
    by_cases hk60 : (60 : Int) < (kn : Int)
    · go_wp2_with fail
      go_ret
      exact ⟨rfl, HB0.out.trans (HO2.out.2.1.mono HB0.out.size)⟩
    have hm9 : (mn : Int) ≤ 60 := by omega
    have hk9 : (kn : Int) ≤ 60 := by omega
    clear hml hkl
    have P0 : Hid (RtOwn W0 r (mvsL l (ms.take 0)) w2) := HO2.out
    go_wp2_with fail
    go_loopw [12] (fun i wr => ∃ j : Nat, j ≤ mn ∧ i = .int .i64 j ∧ Hid (RtOwn W0 r (mvsL l (ms.take j)) wr)) (fun i _ => mn - (intOf i).toNat)
    case atStart => exact ⟨0, by omega, rfl, P0⟩
    case round =>
      clear P0
      obtain ⟨j, hj, rfl, HI⟩ := hrel
      by_cases hlt : j < mn
      · obtain ⟨m, hm⟩ : ∃ x, ms[j]? = some x := ⟨_, List.getElem?_eq_getElem (by rw [← HMN.out]; exact hlt)⟩
        obtain ⟨g, o, rfl, lg, hc⟩ := (HMS.out.below HI.out.2.1).at hm
        have d0 : wr.cell? ⟨g, o + j * 3, none⟩ = some (.string m.fr) := hc 0 _ rfl
        have d1 : wr.cell? ⟨g, o + j * 3 + 1, none⟩ = some (.string m.tt) := hc 1 _ rfl
        have d2 : wr.cell? ⟨g, o + j * 3 + 2, none⟩ = some (.int .i64 m.sh) := hc 2 _ rfl
        have hj0 : (0 : Int) ≤ (j : Int) := by omega
        have hj1 : (j : Int) < (mn : Int) := by omega
        have hd : Below wr.heap.size wr wr.drew := ⟨rfl, rfl, rfl, Nat.le_refl _, fun _ _ => rfl⟩
        have HMV := Lib.hid (own_move (HI.out.below hd) m.fr m.tt m.sh)
        have HSN := Lib.hid (mvs_snoc l (ms.take j) m)
        have HTK := Lib.hid (take_snoc hm)
        clear hm hc hd
        go_wp2_with fail
        refine wp_region_tail 16 (by kernel_rfl) (by kernel_rfl) ?_
        simp only [List.take_succ_cons, List.take_zero, List.drop_succ_cons, List.drop_zero]
        repeat still_step
        refine wpStill_nil ?_
        go_wp2_with fail
        refine HMV.out.mono ?_
        rintro e w3 ⟨rfl, hown, _⟩
        have HNX : Hid (RtOwn W0 r (mvsL l (ms.take (j + 1))) w3) := by
          show RtOwn _ _ _ _
          rw [HTK.out, HSN.out]
          exact hown
        clear hown
        go_wp2_with fail
        exact ⟨⟨j + 1, by omega, by simp, HNX⟩, by simp [intOf]; omega⟩
      · obtain rfl : j = mn := by omega
        obtain ⟨L, hL⟩ : ∃ L, L = mvsL l (ms.take j) := ⟨_, rfl⟩
        rw [← hL] at HI
        clear hL
        obtain ⟨wS, rfl⟩ : ∃ x : World, x = wr := ⟨_, rfl⟩
        have P1 : Hid (WasIs wS L (ks.take 0) (.slice none 0 0) wS) := ⟨Below.refl _ _, World.ownsRow_nil _ _ _ _⟩
        go_wp2_with fail
        go_loopw [13, 14] (fun v i wr => ∃ j : Nat, j ≤ kn ∧ i = .int .i64 j ∧ Hid (WasIs wS L (ks.take j) v wr)) (fun _ i _ => kn - (intOf i).toNat)
        case atStart => exact ⟨0, by omega, rfl, P1⟩
        case round =>
          clear P1
          obtain ⟨j2, hj2, rfl, HW⟩ := hrel
          by_cases hlt2 : j2 < kn
          · obtain ⟨k, hk⟩ : ∃ x, ks[j2]? = some x := ⟨_, List.getElem?_eq_getElem (by rw [← HKN.out]; exact hlt2)⟩
            obtain ⟨g, o, rfl, lg, hc⟩ := (HKS.out.below (HI.out.below HW.out.1).2.1).at hk
            have d0 : wr.cell? ⟨g, o + j2, none⟩ = some (.string k) := by have := hc 0 _ rfl; simpa using this
            have hj0 : (0 : Int) ≤ (j2 : Int) := by omega
            have hj1 : (j2 : Int) < (kn : Int) := by omega
            have HOW := Lib.hid (own_owner (HI.out.below HW.out.1) k)
            have HTK := Lib.hid (take_snoc hk)
            have HLN : Hid (((ks.take j2).map (ow pc0 L)).length ≤ 100) := by show _ ≤ _; simp; omega
            obtain ⟨x, hx⟩ : ∃ x, x = ow pc0 L k := ⟨_, rfl⟩
            rw [← hx] at HOW
            have HX := Lib.hid hx
            clear hk hc hx
            go_wp2_with fail
            refine HOW.out.mono ?_
            rintro e w3 ⟨rfl, hown, hb⟩
            have HB3 := Lib.hid hb
            have HR3 := Lib.hid (row_below HW.out.2 hb)
            clear hown hb
            go_wp2_with (at_builtin; refine append_src rfl _ _ rfl wS.heap.size _ ((ks.take j2).map (ow pc0 L)) [x] rfl (HR3.out.alloc _) _ 1 rfl (src_one (heap_alloc_new w3 _)) (by have := HLN.out; omega) (by simp) (by have := HB3.out.size; have := HW.out.1.size; simp; omega) ?_)
            intro v' w4 hown hgrow
            have HNX : Hid (WasIs wS L (ks.take (j2 + 1)) v' w4) := by
              show WasIs _ _ _ _ _
              rw [HTK.out]
              refine was_step HW.out (HB3.out.trans (((Below.refl _ w3).alloc (Nat.le_refl _) _).mono HB3.out.size)) ?_ hgrow
              rw [← HX.out]
              rw [List.length_append, List.flatMap_append]
              simpa using hown
            clear hown hgrow
            go_wp2_with fail
            exact ⟨⟨j2 + 1, by omega, by simp, HNX⟩, by simp [intOf]; omega⟩
          · obtain rfl : j2 = kn := by omega
            have HIR := Lib.hid (HI.out.below HW.out.1)
            have HTT : Hid (ks.take j2 = ks) := by show _ = _; rw [HKN.out]; exact List.take_length
            obtain ⟨a13, c13, hu13, hri⟩ : ∃ a13 c13, u13 = .slice a13 (ks.map (ow pc0 L)).length c13 ∧ RowIs wr (.slice a13 (ks.map (ow pc0 L)).length c13) (ks.map (ow pc0 L)) := by
              obtain ⟨a', c', e1, _⟩ := row_form HW.out.2
              rw [HTT.out] at e1
              refine ⟨a', c', e1, wS.heap.size, ?_⟩
              have := HW.out.2
              rw [HTT.out, e1] at this
              exact this
            subst hu13
            have hkm : (ks.map (ow pc0 L)).length = j2 := by rw [List.length_map, HKN.out]
            have HKM := Lib.hid hkm
            rw [hkm] at hri ⊢
            have HR3 := Lib.hid hri
            have HMV := Lib.hid (own_move HIR.out f t s)
            obtain ⟨m0, m1, m2, lm⟩ := HMB.out wr HIR.out.2.1
            clear hkm hri HW
            cases he : moveErr L f t s with
            | none =>
              rw [he, show errQ none = .nilIface from rfl] at HMV
              have HIN : Hid (∀ k, inB f t k = true → (ow pc0 (moveL L f t s) k).sh = s ∧ (ow pc0 (moveL L f t s) k).ep = (ow pc0 L k).ep + 1) := fun k hk => moved_in HIR.out.ok he hk
              have HOUT : Hid (∀ k, inB f t k = false → (ow pc0 (moveL L f t s) k).sh = (ow pc0 L k).sh ∧ (ow pc0 (moveL L f t s) k).ep = (ow pc0 L k).ep) := fun k hk => moved_out HIR.out.ok (fun h => by rw [hk] at h; cases h.2)
              have HEP : Hid (∀ k, IntKind.i64.wrap ((ow pc0 L k).ep + 1) = (ow pc0 L k).ep + 1) := fun k => ow_ep HIR.out.ok k
              obtain ⟨M, hM⟩ : ∃ M, M = moveL L f t s := ⟨_, rfl⟩
              rw [← hM] at HMV HOUT HIN
              clear he hM
              go_wp2_with fail
              refine HMV.out.mono ?_
              rintro e w5 ⟨rfl, hown, hw⟩
              have P2 : Hid (RtOwn W0 r M w5 ∧ RowIs w5 (.slice a13 j2 c13) (ks.map (ow pc0 L))) := ⟨hown, HR3.out.moved HIR.out hw⟩
              clear hown hw HMV m0 m1 m2 lm HR3 HIR
              go_wp2_with fail
              go_loopw [15] (fun i wr => ∃ j : Nat, j ≤ j2 ∧ i = .int .i64 j ∧ Hid (RtOwn W0 r M wr ∧ RowIs wr (.slice a13 j2 c13) (ks.map (ow pc0 L)))) (fun i _ => j2 - (intOf i).toNat)
              case atStart => exact ⟨0, by omega, rfl, P2⟩
              case round =>
                clear P2
                obtain ⟨j3, hj3, rfl, HJ⟩ := hrel
                by_cases hlt3 : j3 < j2
                · obtain ⟨k, hk⟩ : ∃ x, ks[j3]? = some x := ⟨_, List.getElem?_eq_getElem (by rw [← HKN.out]; exact hlt3)⟩
                  have hwk : (ks.map (ow pc0 L))[j3]? = some (ow pc0 L k) := by rw [List.getElem?_map, hk]; rfl
                  obtain ⟨g, o, rfl, lg, hc⟩ := (HKS.out.below HJ.out.1.2.1).at hk
                  obtain ⟨g2, o2, rfl, lg2, hc2⟩ := HJ.out.2.src.2.lies j3 _ hwk
                  have d0 : wr.cell? ⟨g, o + j3, none⟩ = some (.string k) := by have := hc 0 _ rfl; simpa using this
                  have hj0 : (0 : Int) ≤ (j3 : Int) := by omega
                  have hj1 : (j3 : Int) < (j2 : Int) := by omega
                  have HOW := Lib.hid (own_owner HJ.out.1 k)
                  obtain ⟨x, hx⟩ : ∃ x, x = ow pc0 L k := ⟨_, rfl⟩
                  obtain ⟨yf, hyf⟩ : ∃ x, x = (ow pc0 M k).fr := ⟨_, rfl⟩
                  rw [← hyf] at HOW
                  have hep := HEP.out k
                  rw [← hx] at hep
                  cases h1 : lessK k f with
                  | true =>
                    have hq := HOUT.out k (by unfold inB; rw [h1]; rfl)
                    rw [hq.1, hq.2, ← hx] at HOW
                    have b1 : Op.bytesLess k.toList f.toList = true := h1
                    clear hq h1
                    have HC1 : Hid (∀ W, Below wr.heap.size wr W → W.cell? ⟨g, o + j3, none⟩ = some (.string k) ∧ g < W.heap.size ∧ W.cell? ⟨g2, o2 + j3 * 3 + 1, none⟩ = some (.int .i64 x.sh) ∧ W.cell? ⟨g2, o2 + j3 * 3 + 2, none⟩ = some (.int .i64 x.ep) ∧ g2 < W.heap.size) := fun W hb => by
                      obtain ⟨g', o', e1, l1, hc⟩ := (HKS.out.below (HJ.out.1.below hb).2.1).at hk
                      obtain ⟨rfl, rfl⟩ : g = g' ∧ o = o' := by simpa using e1
                      obtain ⟨g', o', e1, l2, hc2⟩ := (HJ.out.2.below hb).src.2.lies j3 _ hwk
                      obtain ⟨rfl, rfl⟩ : g2 = g' ∧ o2 = o' := by simpa using e1
                      rw [hx]
                      exact ⟨by have := hc 0 _ rfl; simpa using this, l1, hc2 1 _ rfl, hc2 2 _ rfl, l2⟩
                    clear hc hc2 hk hwk hx hyf
                    go_wp2_with fail
                    refine HOW.out.mono ?_
                    rintro e w6 ⟨rfl, hown, hb⟩
                    obtain ⟨w7, hw7⟩ : ∃ w7, w7 = w6.alloc (.cells #[.string yf, .int .i64 (x.sh), .int .i64 (x.ep)] 35) := ⟨_, rfl⟩
                    obtain ⟨x7, hx7⟩ : ∃ x, x = w6.heap.size := ⟨_, rfl⟩
                    have hb7 : Below w6.heap.size w6 w7 := by rw [hw7]; exact (Below.refl _ w6).alloc (Nat.le_refl _) _
                    have hr7 : w7.heap[x7]? = some (.cells #[.string yf, .int .i64 (x.sh), .int .i64 (x.ep)] 35 (0, 0)) := by rw [hw7, hx7]; exact heap_alloc_new w6 _
                    have hbb := hb.trans (hb7.mono hb.size)
                    have HD : Hid (∀ q, RtOwn W0 r M (w7.drewN q) ∧ RowIs (w7.drewN q) (.slice (some ⟨g2, o2, none⟩) j2 c13) (ks.map (ow pc0 L))) := fun q => by
                      have hd : Below w7.heap.size w7 (w7.drewN q) := ⟨rfl, rfl, rfl, Nat.le_refl _, fun _ _ => rfl⟩
                      exact ⟨(HJ.out.1.below hbb).below hd, (HJ.out.2.below hbb).below hd⟩
                    obtain ⟨k0, lk, was1, was2, lw⟩ := HC1.out w7 hbb
                    obtain ⟨m0, m1, m2, lm⟩ := HMB.out w7 (HJ.out.1.below hbb).2.1
                    have y1 : w7.cell? ⟨x7, 1, none⟩ = some (.int .i64 (x.sh)) := by rw [cell_of_row _ _ _ _ _ _ hr7]; rfl
                    have y2 : w7.cell? ⟨x7, 2, none⟩ = some (.int .i64 (x.ep)) := by rw [cell_of_row _ _ _ _ _ _ hr7]; rfl
                    have ly := lt_of_heap hr7
                    clear hown hb hb7 hbb hr7 HC1 HOW d0 lg lg2
                    go_wp2_with fail
                    rw [← hw7, ← hx7]
                    clear hw7 hx7
                    go_quiet (fail)
                    go_wp2_with fail
                    go_quiet (fail)
                    go_wp2_with fail
                    exact ⟨⟨j3 + 1, by omega, by simp, HD.out _⟩, by simp [intOf]; omega⟩
                  | false =>
                    by_cases h0 : t.size = 0
                    · have hq := HIN.out k (by unfold inB; rw [h1]; simp [h0])
                      obtain rfl := size_empty h0
                      rw [hq.1, hq.2, ← hx] at HOW
                      have b1 : Op.bytesLess k.toList f.toList = false := h1
                      clear hq h1 h0
                      have HC1 : Hid (∀ W, Below wr.heap.size wr W → W.cell? ⟨g, o + j3, none⟩ = some (.string k) ∧ g < W.heap.size ∧ W.cell? ⟨g2, o2 + j3 * 3 + 1, none⟩ = some (.int .i64 x.sh) ∧ W.cell? ⟨g2, o2 + j3 * 3 + 2, none⟩ = some (.int .i64 x.ep) ∧ g2 < W.heap.size) := fun W hb => by
                        obtain ⟨g', o', e1, l1, hc⟩ := (HKS.out.below (HJ.out.1.below hb).2.1).at hk
                        obtain ⟨rfl, rfl⟩ : g = g' ∧ o = o' := by simpa using e1
                        obtain ⟨g', o', e1, l2, hc2⟩ := (HJ.out.2.below hb).src.2.lies j3 _ hwk
                        obtain ⟨rfl, rfl⟩ : g2 = g' ∧ o2 = o' := by simpa using e1
                        rw [hx]
                        exact ⟨by have := hc 0 _ rfl; simpa using this, l1, hc2 1 _ rfl, hc2 2 _ rfl, l2⟩
                      clear hc hc2 hk hwk hx hyf
                      go_wp2_with fail
                      refine HOW.out.mono ?_
                      rintro e w6 ⟨rfl, hown, hb⟩
                      obtain ⟨w7, hw7⟩ : ∃ w7, w7 = w6.alloc (.cells #[.string yf, .int .i64 (s), .int .i64 (x.ep + 1)] 35) := ⟨_, rfl⟩
                      obtain ⟨x7, hx7⟩ : ∃ x, x = w6.heap.size := ⟨_, rfl⟩
                      have hb7 : Below w6.heap.size w6 w7 := by rw [hw7]; exact (Below.refl _ w6).alloc (Nat.le_refl _) _
                      have hr7 : w7.heap[x7]? = some (.cells #[.string yf, .int .i64 (s), .int .i64 (x.ep + 1)] 35 (0, 0)) := by rw [hw7, hx7]; exact heap_alloc_new w6 _
                      have hbb := hb.trans (hb7.mono hb.size)
                      have HD : Hid (∀ q, RtOwn W0 r M (w7.drewN q) ∧ RowIs (w7.drewN q) (.slice (some ⟨g2, o2, none⟩) j2 c13) (ks.map (ow pc0 L))) := fun q => by
                        have hd : Below w7.heap.size w7 (w7.drewN q) := ⟨rfl, rfl, rfl, Nat.le_refl _, fun _ _ => rfl⟩
                        exact ⟨(HJ.out.1.below hbb).below hd, (HJ.out.2.below hbb).below hd⟩
                      obtain ⟨k0, lk, was1, was2, lw⟩ := HC1.out w7 hbb
                      obtain ⟨m0, m1, m2, lm⟩ := HMB.out w7 (HJ.out.1.below hbb).2.1
                      have y1 : w7.cell? ⟨x7, 1, none⟩ = some (.int .i64 (s)) := by rw [cell_of_row _ _ _ _ _ _ hr7]; rfl
                      have y2 : w7.cell? ⟨x7, 2, none⟩ = some (.int .i64 (x.ep + 1)) := by rw [cell_of_row _ _ _ _ _ _ hr7]; rfl
                      have ly := lt_of_heap hr7
                      clear hown hb hb7 hbb hr7 HC1 HOW d0 lg lg2
                      go_wp2_with fail
                      rw [← hw7, ← hx7]
                      clear hw7 hx7
                      go_quiet (fail)
                      go_wp2_with fail
                      go_quiet (fail)
                      go_wp2_with fail
                      exact ⟨⟨j3 + 1, by omega, by simp, HD.out _⟩, by simp [intOf]; omega⟩
                    · cases h2 : lessK k t with
                      | true =>
                        have hq := HIN.out k (by unfold inB; rw [h1, h2]; simp)
                        have e4 := empty_ne h0
                        rw [hq.1, hq.2, ← hx] at HOW
                        have b1 : Op.bytesLess k.toList f.toList = false := h1
                        have b2 : Op.bytesLess k.toList t.toList = true := h2
                        clear hq h1 h0 h2
                        have HC1 : Hid (∀ W, Below wr.heap.size wr W → W.cell? ⟨g, o + j3, none⟩ = some (.string k) ∧ g < W.heap.size ∧ W.cell? ⟨g2, o2 + j3 * 3 + 1, none⟩ = some (.int .i64 x.sh) ∧ W.cell? ⟨g2, o2 + j3 * 3 + 2, none⟩ = some (.int .i64 x.ep) ∧ g2 < W.heap.size) := fun W hb => by
                          obtain ⟨g', o', e1, l1, hc⟩ := (HKS.out.below (HJ.out.1.below hb).2.1).at hk
                          obtain ⟨rfl, rfl⟩ : g = g' ∧ o = o' := by simpa using e1
                          obtain ⟨g', o', e1, l2, hc2⟩ := (HJ.out.2.below hb).src.2.lies j3 _ hwk
                          obtain ⟨rfl, rfl⟩ : g2 = g' ∧ o2 = o' := by simpa using e1
                          rw [hx]
                          exact ⟨by have := hc 0 _ rfl; simpa using this, l1, hc2 1 _ rfl, hc2 2 _ rfl, l2⟩
                        clear hc hc2 hk hwk hx hyf
                        go_wp2_with fail
                        refine HOW.out.mono ?_
                        rintro e w6 ⟨rfl, hown, hb⟩
                        obtain ⟨w7, hw7⟩ : ∃ w7, w7 = w6.alloc (.cells #[.string yf, .int .i64 (s), .int .i64 (x.ep + 1)] 35) := ⟨_, rfl⟩
                        obtain ⟨x7, hx7⟩ : ∃ x, x = w6.heap.size := ⟨_, rfl⟩
                        have hb7 : Below w6.heap.size w6 w7 := by rw [hw7]; exact (Below.refl _ w6).alloc (Nat.le_refl _) _
                        have hr7 : w7.heap[x7]? = some (.cells #[.string yf, .int .i64 (s), .int .i64 (x.ep + 1)] 35 (0, 0)) := by rw [hw7, hx7]; exact heap_alloc_new w6 _
                        have hbb := hb.trans (hb7.mono hb.size)
                        have HD : Hid (∀ q, RtOwn W0 r M (w7.drewN q) ∧ RowIs (w7.drewN q) (.slice (some ⟨g2, o2, none⟩) j2 c13) (ks.map (ow pc0 L))) := fun q => by
                          have hd : Below w7.heap.size w7 (w7.drewN q) := ⟨rfl, rfl, rfl, Nat.le_refl _, fun _ _ => rfl⟩
                          exact ⟨(HJ.out.1.below hbb).below hd, (HJ.out.2.below hbb).below hd⟩
                        obtain ⟨k0, lk, was1, was2, lw⟩ := HC1.out w7 hbb
                        obtain ⟨m0, m1, m2, lm⟩ := HMB.out w7 (HJ.out.1.below hbb).2.1
                        have y1 : w7.cell? ⟨x7, 1, none⟩ = some (.int .i64 (s)) := by rw [cell_of_row _ _ _ _ _ _ hr7]; rfl
                        have y2 : w7.cell? ⟨x7, 2, none⟩ = some (.int .i64 (x.ep + 1)) := by rw [cell_of_row _ _ _ _ _ _ hr7]; rfl
                        have ly := lt_of_heap hr7
                        clear hown hb hb7 hbb hr7 HC1 HOW d0 lg lg2
                        go_wp2_with fail
                        rw [← hw7, ← hx7]
                        clear hw7 hx7
                        go_quiet (fail)
                        go_wp2_with fail
                        go_quiet (fail)
                        go_wp2_with fail
                        exact ⟨⟨j3 + 1, by omega, by simp, HD.out _⟩, by simp [intOf]; omega⟩
                      | false =>
                        have hq := HOUT.out k (by unfold inB; rw [h1, h2]; simp [h0])
                        have e4 := empty_ne h0
                        rw [hq.1, hq.2, ← hx] at HOW
                        have b1 : Op.bytesLess k.toList f.toList = false := h1
                        have b2 : Op.bytesLess k.toList t.toList = false := h2
                        clear hq h1 h0 h2
                        have HC1 : Hid (∀ W, Below wr.heap.size wr W → W.cell? ⟨g, o + j3, none⟩ = some (.string k) ∧ g < W.heap.size ∧ W.cell? ⟨g2, o2 + j3 * 3 + 1, none⟩ = some (.int .i64 x.sh) ∧ W.cell? ⟨g2, o2 + j3 * 3 + 2, none⟩ = some (.int .i64 x.ep) ∧ g2 < W.heap.size) := fun W hb => by
                          obtain ⟨g', o', e1, l1, hc⟩ := (HKS.out.below (HJ.out.1.below hb).2.1).at hk
                          obtain ⟨rfl, rfl⟩ : g = g' ∧ o = o' := by simpa using e1
                          obtain ⟨g', o', e1, l2, hc2⟩ := (HJ.out.2.below hb).src.2.lies j3 _ hwk
                          obtain ⟨rfl, rfl⟩ : g2 = g' ∧ o2 = o' := by simpa using e1
                          rw [hx]
                          exact ⟨by have := hc 0 _ rfl; simpa using this, l1, hc2 1 _ rfl, hc2 2 _ rfl, l2⟩
                        clear hc hc2 hk hwk hx hyf
                        go_wp2_with fail
                        refine HOW.out.mono ?_
                        rintro e w6 ⟨rfl, hown, hb⟩
                        obtain ⟨w7, hw7⟩ : ∃ w7, w7 = w6.alloc (.cells #[.string yf, .int .i64 (x.sh), .int .i64 (x.ep)] 35) := ⟨_, rfl⟩
                        obtain ⟨x7, hx7⟩ : ∃ x, x = w6.heap.size := ⟨_, rfl⟩
                        have hb7 : Below w6.heap.size w6 w7 := by rw [hw7]; exact (Below.refl _ w6).alloc (Nat.le_refl _) _
                        have hr7 : w7.heap[x7]? = some (.cells #[.string yf, .int .i64 (x.sh), .int .i64 (x.ep)] 35 (0, 0)) := by rw [hw7, hx7]; exact heap_alloc_new w6 _
                        have hbb := hb.trans (hb7.mono hb.size)
                        have HD : Hid (∀ q, RtOwn W0 r M (w7.drewN q) ∧ RowIs (w7.drewN q) (.slice (some ⟨g2, o2, none⟩) j2 c13) (ks.map (ow pc0 L))) := fun q => by
                          have hd : Below w7.heap.size w7 (w7.drewN q) := ⟨rfl, rfl, rfl, Nat.le_refl _, fun _ _ => rfl⟩
                          exact ⟨(HJ.out.1.below hbb).below hd, (HJ.out.2.below hbb).below hd⟩
                        obtain ⟨k0, lk, was1, was2, lw⟩ := HC1.out w7 hbb
                        obtain ⟨m0, m1, m2, lm⟩ := HMB.out w7 (HJ.out.1.below hbb).2.1
                        have y1 : w7.cell? ⟨x7, 1, none⟩ = some (.int .i64 (x.sh)) := by rw [cell_of_row _ _ _ _ _ _ hr7]; rfl
                        have y2 : w7.cell? ⟨x7, 2, none⟩ = some (.int .i64 (x.ep)) := by rw [cell_of_row _ _ _ _ _ _ hr7]; rfl
                        have ly := lt_of_heap hr7
                        clear hown hb hb7 hbb hr7 HC1 HOW d0 lg lg2
                        go_wp2_with fail
                        rw [← hw7, ← hx7]
                        clear hw7 hx7
                        go_quiet (fail)
                        go_wp2_with fail
                        go_quiet (fail)
                        go_wp2_with fail
                        exact ⟨⟨j3 + 1, by omega, by simp, HD.out _⟩, by simp [intOf]; omega⟩
                · obtain rfl : j3 = j2 := by omega
                  have HE := Lib.hid (HB0.out.trans (HJ.out.1.2.1.mono HB0.out.size))
                  go_wp2_with fail
                  go_ret
                  exact ⟨rfl, HE.out⟩
            | some q =>
              obtain ⟨T, v, hE⟩ := errOf_form q.1 [(routeW, q.2)]
              rw [he, show errQ (some q) = .iface T v from hE] at HMV
              have HOUT : Hid (∀ k, (ow pc0 (moveL L f t s) k).sh = (ow pc0 L k).sh ∧ (ow pc0 (moveL L f t s) k).ep = (ow pc0 L k).ep) := fun k => moved_out HIR.out.ok (fun h => by rw [he] at h; cases h.1)
              clear hE
              have HEP : Hid (∀ k, IntKind.i64.wrap ((ow pc0 L k).ep + 1) = (ow pc0 L k).ep + 1) := fun k => ow_ep HIR.out.ok k
              obtain ⟨M, hM⟩ : ∃ M, M = moveL L f t s := ⟨_, rfl⟩
              rw [← hM] at HMV HOUT
              clear he hM
              go_wp2_with fail
              refine HMV.out.mono ?_
              rintro e w5 ⟨rfl, hown, hw⟩
              have P2 : Hid (RtOwn W0 r M w5 ∧ RowIs w5 (.slice a13 j2 c13) (ks.map (ow pc0 L))) := ⟨hown, HR3.out.moved HIR.out hw⟩
              clear hown hw HMV m0 m1 m2 lm HR3 HIR
              go_wp2_with fail
              go_loopw [15] (fun i wr => ∃ j : Nat, j ≤ j2 ∧ i = .int .i64 j ∧ Hid (RtOwn W0 r M wr ∧ RowIs wr (.slice a13 j2 c13) (ks.map (ow pc0 L)))) (fun i _ => j2 - (intOf i).toNat)
              case atStart => exact ⟨0, by omega, rfl, P2⟩
              case round =>
                clear P2
                obtain ⟨j3, hj3, rfl, HJ⟩ := hrel
                by_cases hlt3 : j3 < j2
                · obtain ⟨k, hk⟩ : ∃ x, ks[j3]? = some x := ⟨_, List.getElem?_eq_getElem (by rw [← HKN.out]; exact hlt3)⟩
                  have hwk : (ks.map (ow pc0 L))[j3]? = some (ow pc0 L k) := by rw [List.getElem?_map, hk]; rfl
                  obtain ⟨g, o, rfl, lg, hc⟩ := (HKS.out.below HJ.out.1.2.1).at hk
                  obtain ⟨g2, o2, rfl, lg2, hc2⟩ := HJ.out.2.src.2.lies j3 _ hwk
                  have d0 : wr.cell? ⟨g, o + j3, none⟩ = some (.string k) := by have := hc 0 _ rfl; simpa using this
                  have hj0 : (0 : Int) ≤ (j3 : Int) := by omega
                  have hj1 : (j3 : Int) < (j2 : Int) := by omega
                  have HOW := Lib.hid (own_owner HJ.out.1 k)
                  obtain ⟨x, hx⟩ : ∃ x, x = ow pc0 L k := ⟨_, rfl⟩
                  obtain ⟨yf, hyf⟩ : ∃ x, x = (ow pc0 M k).fr := ⟨_, rfl⟩
                  rw [← hyf] at HOW
                  have hep := HEP.out k
                  rw [← hx] at hep
                  cases h1 : lessK k f with
                  | true =>
                    have hq := HOUT.out k
                    rw [hq.1, hq.2, ← hx] at HOW
                    have b1 : Op.bytesLess k.toList f.toList = true := h1
                    clear hq h1
                    have HC1 : Hid (∀ W, Below wr.heap.size wr W → W.cell? ⟨g, o + j3, none⟩ = some (.string k) ∧ g < W.heap.size ∧ W.cell? ⟨g2, o2 + j3 * 3 + 1, none⟩ = some (.int .i64 x.sh) ∧ W.cell? ⟨g2, o2 + j3 * 3 + 2, none⟩ = some (.int .i64 x.ep) ∧ g2 < W.heap.size) := fun W hb => by
                      obtain ⟨g', o', e1, l1, hc⟩ := (HKS.out.below (HJ.out.1.below hb).2.1).at hk
                      obtain ⟨rfl, rfl⟩ : g = g' ∧ o = o' := by simpa using e1
                      obtain ⟨g', o', e1, l2, hc2⟩ := (HJ.out.2.below hb).src.2.lies j3 _ hwk
                      obtain ⟨rfl, rfl⟩ : g2 = g' ∧ o2 = o' := by simpa using e1
                      rw [hx]
                      exact ⟨by have := hc 0 _ rfl; simpa using this, l1, hc2 1 _ rfl, hc2 2 _ rfl, l2⟩
                    clear hc hc2 hk hwk hx hyf
                    go_wp2_with fail
                    refine HOW.out.mono ?_
                    rintro e w6 ⟨rfl, hown, hb⟩
                    obtain ⟨w7, hw7⟩ : ∃ w7, w7 = w6.alloc (.cells #[.string yf, .int .i64 (x.sh), .int .i64 (x.ep)] 35) := ⟨_, rfl⟩
                    obtain ⟨x7, hx7⟩ : ∃ x, x = w6.heap.size := ⟨_, rfl⟩
                    have hb7 : Below w6.heap.size w6 w7 := by rw [hw7]; exact (Below.refl _ w6).alloc (Nat.le_refl _) _
                    have hr7 : w7.heap[x7]? = some (.cells #[.string yf, .int .i64 (x.sh), .int .i64 (x.ep)] 35 (0, 0)) := by rw [hw7, hx7]; exact heap_alloc_new w6 _
                    have hbb := hb.trans (hb7.mono hb.size)
                    have HD : Hid (∀ q, RtOwn W0 r M (w7.drewN q) ∧ RowIs (w7.drewN q) (.slice (some ⟨g2, o2, none⟩) j2 c13) (ks.map (ow pc0 L))) := fun q => by
                      have hd : Below w7.heap.size w7 (w7.drewN q) := ⟨rfl, rfl, rfl, Nat.le_refl _, fun _ _ => rfl⟩
                      exact ⟨(HJ.out.1.below hbb).below hd, (HJ.out.2.below hbb).below hd⟩
                    obtain ⟨k0, lk, was1, was2, lw⟩ := HC1.out w7 hbb
                    obtain ⟨m0, m1, m2, lm⟩ := HMB.out w7 (HJ.out.1.below hbb).2.1
                    have y1 : w7.cell? ⟨x7, 1, none⟩ = some (.int .i64 (x.sh)) := by rw [cell_of_row _ _ _ _ _ _ hr7]; rfl
                    have y2 : w7.cell? ⟨x7, 2, none⟩ = some (.int .i64 (x.ep)) := by rw [cell_of_row _ _ _ _ _ _ hr7]; rfl
                    have ly := lt_of_heap hr7
                    clear hown hb hb7 hbb hr7 HC1 HOW d0 lg lg2
                    go_wp2_with fail
                    rw [← hw7, ← hx7]
                    clear hw7 hx7
                    go_quiet (fail)
                    go_wp2_with fail
                    go_quiet (fail)
                    go_wp2_with fail
                    exact ⟨⟨j3 + 1, by omega, by simp, HD.out _⟩, by simp [intOf]; omega⟩
                  | false =>
                    by_cases h0 : t.size = 0
                    · have hq := HOUT.out k
                      obtain rfl := size_empty h0
                      rw [hq.1, hq.2, ← hx] at HOW
                      have b1 : Op.bytesLess k.toList f.toList = false := h1
                      clear hq h1 h0
                      have HC1 : Hid (∀ W, Below wr.heap.size wr W → W.cell? ⟨g, o + j3, none⟩ = some (.string k) ∧ g < W.heap.size ∧ W.cell? ⟨g2, o2 + j3 * 3 + 1, none⟩ = some (.int .i64 x.sh) ∧ W.cell? ⟨g2, o2 + j3 * 3 + 2, none⟩ = some (.int .i64 x.ep) ∧ g2 < W.heap.size) := fun W hb => by
                        obtain ⟨g', o', e1, l1, hc⟩ := (HKS.out.below (HJ.out.1.below hb).2.1).at hk
                        obtain ⟨rfl, rfl⟩ : g = g' ∧ o = o' := by simpa using e1
                        obtain ⟨g', o', e1, l2, hc2⟩ := (HJ.out.2.below hb).src.2.lies j3 _ hwk
                        obtain ⟨rfl, rfl⟩ : g2 = g' ∧ o2 = o' := by simpa using e1
                        rw [hx]
                        exact ⟨by have := hc 0 _ rfl; simpa using this, l1, hc2 1 _ rfl, hc2 2 _ rfl, l2⟩
                      clear hc hc2 hk hwk hx hyf
                      go_wp2_with fail
                      refine HOW.out.mono ?_
                      rintro e w6 ⟨rfl, hown, hb⟩
                      obtain ⟨w7, hw7⟩ : ∃ w7, w7 = w6.alloc (.cells #[.string yf, .int .i64 (x.sh), .int .i64 (x.ep)] 35) := ⟨_, rfl⟩
                      obtain ⟨x7, hx7⟩ : ∃ x, x = w6.heap.size := ⟨_, rfl⟩
                      have hb7 : Below w6.heap.size w6 w7 := by rw [hw7]; exact (Below.refl _ w6).alloc (Nat.le_refl _) _
                      have hr7 : w7.heap[x7]? = some (.cells #[.string yf, .int .i64 (x.sh), .int .i64 (x.ep)] 35 (0, 0)) := by rw [hw7, hx7]; exact heap_alloc_new w6 _
                      have hbb := hb.trans (hb7.mono hb.size)
                      have HD : Hid (∀ q, RtOwn W0 r M (w7.drewN q) ∧ RowIs (w7.drewN q) (.slice (some ⟨g2, o2, none⟩) j2 c13) (ks.map (ow pc0 L))) := fun q => by
                        have hd : Below w7.heap.size w7 (w7.drewN q) := ⟨rfl, rfl, rfl, Nat.le_refl _, fun _ _ => rfl⟩
                        exact ⟨(HJ.out.1.below hbb).below hd, (HJ.out.2.below hbb).below hd⟩
                      obtain ⟨k0, lk, was1, was2, lw⟩ := HC1.out w7 hbb
                      obtain ⟨m0, m1, m2, lm⟩ := HMB.out w7 (HJ.out.1.below hbb).2.1
                      have y1 : w7.cell? ⟨x7, 1, none⟩ = some (.int .i64 (x.sh)) := by rw [cell_of_row _ _ _ _ _ _ hr7]; rfl
                      have y2 : w7.cell? ⟨x7, 2, none⟩ = some (.int .i64 (x.ep)) := by rw [cell_of_row _ _ _ _ _ _ hr7]; rfl
                      have ly := lt_of_heap hr7
                      clear hown hb hb7 hbb hr7 HC1 HOW d0 lg lg2
                      go_wp2_with fail
                      rw [← hw7, ← hx7]
                      clear hw7 hx7
                      go_quiet (fail)
                      go_wp2_with fail
                      go_quiet (fail)
                      go_wp2_with fail
                      exact ⟨⟨j3 + 1, by omega, by simp, HD.out _⟩, by simp [intOf]; omega⟩
                    · cases h2 : lessK k t with
                      | true =>
                        have hq := HOUT.out k
                        have e4 := empty_ne h0
                        rw [hq.1, hq.2, ← hx] at HOW
                        have b1 : Op.bytesLess k.toList f.toList = false := h1
                        have b2 : Op.bytesLess k.toList t.toList = true := h2
                        clear hq h1 h0 h2
                        have HC1 : Hid (∀ W, Below wr.heap.size wr W → W.cell? ⟨g, o + j3, none⟩ = some (.string k) ∧ g < W.heap.size ∧ W.cell? ⟨g2, o2 + j3 * 3 + 1, none⟩ = some (.int .i64 x.sh) ∧ W.cell? ⟨g2, o2 + j3 * 3 + 2, none⟩ = some (.int .i64 x.ep) ∧ g2 < W.heap.size) := fun W hb => by
                          obtain ⟨g', o', e1, l1, hc⟩ := (HKS.out.below (HJ.out.1.below hb).2.1).at hk
                          obtain ⟨rfl, rfl⟩ : g = g' ∧ o = o' := by simpa using e1
                          obtain ⟨g', o', e1, l2, hc2⟩ := (HJ.out.2.below hb).src.2.lies j3 _ hwk
                          obtain ⟨rfl, rfl⟩ : g2 = g' ∧ o2 = o' := by simpa using e1
                          rw [hx]
                          exact ⟨by have := hc 0 _ rfl; simpa using this, l1, hc2 1 _ rfl, hc2 2 _ rfl, l2⟩
                        clear hc hc2 hk hwk hx hyf
                        go_wp2_with fail
                        refine HOW.out.mono ?_
                        rintro e w6 ⟨rfl, hown, hb⟩
                        obtain ⟨w7, hw7⟩ : ∃ w7, w7 = w6.alloc (.cells #[.string yf, .int .i64 (x.sh), .int .i64 (x.ep)] 35) := ⟨_, rfl⟩
                        obtain ⟨x7, hx7⟩ : ∃ x, x = w6.heap.size := ⟨_, rfl⟩
                        have hb7 : Below w6.heap.size w6 w7 := by rw [hw7]; exact (Below.refl _ w6).alloc (Nat.le_refl _) _
                        have hr7 : w7.heap[x7]? = some (.cells #[.string yf, .int .i64 (x.sh), .int .i64 (x.ep)] 35 (0, 0)) := by rw [hw7, hx7]; exact heap_alloc_new w6 _
                        have hbb := hb.trans (hb7.mono hb.size)
                        have HD : Hid (∀ q, RtOwn W0 r M (w7.drewN q) ∧ RowIs (w7.drewN q) (.slice (some ⟨g2, o2, none⟩) j2 c13) (ks.map (ow pc0 L))) := fun q => by
                          have hd : Below w7.heap.size w7 (w7.drewN q) := ⟨rfl, rfl, rfl, Nat.le_refl _, fun _ _ => rfl⟩
                          exact ⟨(HJ.out.1.below hbb).below hd, (HJ.out.2.below hbb).below hd⟩
                        obtain ⟨k0, lk, was1, was2, lw⟩ := HC1.out w7 hbb
                        obtain ⟨m0, m1, m2, lm⟩ := HMB.out w7 (HJ.out.1.below hbb).2.1
                        have y1 : w7.cell? ⟨x7, 1, none⟩ = some (.int .i64 (x.sh)) := by rw [cell_of_row _ _ _ _ _ _ hr7]; rfl
                        have y2 : w7.cell? ⟨x7, 2, none⟩ = some (.int .i64 (x.ep)) := by rw [cell_of_row _ _ _ _ _ _ hr7]; rfl
                        have ly := lt_of_heap hr7
                        clear hown hb hb7 hbb hr7 HC1 HOW d0 lg lg2
                        go_wp2_with fail
                        rw [← hw7, ← hx7]
                        clear hw7 hx7
                        go_quiet (fail)
                        go_wp2_with fail
                        go_quiet (fail)
                        go_wp2_with fail
                        exact ⟨⟨j3 + 1, by omega, by simp, HD.out _⟩, by simp [intOf]; omega⟩
                      | false =>
                        have hq := HOUT.out k
                        have e4 := empty_ne h0
                        rw [hq.1, hq.2, ← hx] at HOW
                        have b1 : Op.bytesLess k.toList f.toList = false := h1
                        have b2 : Op.bytesLess k.toList t.toList = false := h2
                        clear hq h1 h0 h2
                        have HC1 : Hid (∀ W, Below wr.heap.size wr W → W.cell? ⟨g, o + j3, none⟩ = some (.string k) ∧ g < W.heap.size ∧ W.cell? ⟨g2, o2 + j3 * 3 + 1, none⟩ = some (.int .i64 x.sh) ∧ W.cell? ⟨g2, o2 + j3 * 3 + 2, none⟩ = some (.int .i64 x.ep) ∧ g2 < W.heap.size) := fun W hb => by
                          obtain ⟨g', o', e1, l1, hc⟩ := (HKS.out.below (HJ.out.1.below hb).2.1).at hk
                          obtain ⟨rfl, rfl⟩ : g = g' ∧ o = o' := by simpa using e1
                          obtain ⟨g', o', e1, l2, hc2⟩ := (HJ.out.2.below hb).src.2.lies j3 _ hwk
                          obtain ⟨rfl, rfl⟩ : g2 = g' ∧ o2 = o' := by simpa using e1
                          rw [hx]
                          exact ⟨by have := hc 0 _ rfl; simpa using this, l1, hc2 1 _ rfl, hc2 2 _ rfl, l2⟩
                        clear hc hc2 hk hwk hx hyf
                        go_wp2_with fail
                        refine HOW.out.mono ?_
                        rintro e w6 ⟨rfl, hown, hb⟩
                        obtain ⟨w7, hw7⟩ : ∃ w7, w7 = w6.alloc (.cells #[.string yf, .int .i64 (x.sh), .int .i64 (x.ep)] 35) := ⟨_, rfl⟩
                        obtain ⟨x7, hx7⟩ : ∃ x, x = w6.heap.size := ⟨_, rfl⟩
                        have hb7 : Below w6.heap.size w6 w7 := by rw [hw7]; exact (Below.refl _ w6).alloc (Nat.le_refl _) _
                        have hr7 : w7.heap[x7]? = some (.cells #[.string yf, .int .i64 (x.sh), .int .i64 (x.ep)] 35 (0, 0)) := by rw [hw7, hx7]; exact heap_alloc_new w6 _
                        have hbb := hb.trans (hb7.mono hb.size)
                        have HD : Hid (∀ q, RtOwn W0 r M (w7.drewN q) ∧ RowIs (w7.drewN q) (.slice (some ⟨g2, o2, none⟩) j2 c13) (ks.map (ow pc0 L))) := fun q => by
                          have hd : Below w7.heap.size w7 (w7.drewN q) := ⟨rfl, rfl, rfl, Nat.le_refl _, fun _ _ => rfl⟩
                          exact ⟨(HJ.out.1.below hbb).below hd, (HJ.out.2.below hbb).below hd⟩
                        obtain ⟨k0, lk, was1, was2, lw⟩ := HC1.out w7 hbb
                        obtain ⟨m0, m1, m2, lm⟩ := HMB.out w7 (HJ.out.1.below hbb).2.1
                        have y1 : w7.cell? ⟨x7, 1, none⟩ = some (.int .i64 (x.sh)) := by rw [cell_of_row _ _ _ _ _ _ hr7]; rfl
                        have y2 : w7.cell? ⟨x7, 2, none⟩ = some (.int .i64 (x.ep)) := by rw [cell_of_row _ _ _ _ _ _ hr7]; rfl
                        have ly := lt_of_heap hr7
                        clear hown hb hb7 hbb hr7 HC1 HOW d0 lg lg2
                        go_wp2_with fail
                        rw [← hw7, ← hx7]
                        clear hw7 hx7
                        go_quiet (fail)
                        go_wp2_with fail
                        go_quiet (fail)
                        go_wp2_with fail
                        exact ⟨⟨j3 + 1, by omega, by simp, HD.out _⟩, by simp [intOf]; omega⟩
                · obtain rfl : j3 = j2 := by omega
                  have HE := Lib.hid (HB0.out.trans (HJ.out.1.2.1.mono HB0.out.size))
                  go_wp2_with fail
                  go_ret
                  exact ⟨rfl, HE.out⟩
end Go.Proofs.YtemgcliihbjjiaaDoor
