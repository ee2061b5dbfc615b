/- RouteOne: the walk. -/
import Derived.Test.YtemgcliihbjjiaaDoorRone0
import Derived.Deep.DeepCutAuto
namespace Go.Proofs.YtemgcliihbjjiaaDoor
open Go.RowKit Go.My

set_option maxRecDepth 100000 in
set_option maxHeartbeats 6400000 in
theorem one_7 (a ma ka : Option Addr) (cap mc kc : Nat) (l : List Pc) (ms : List Mv) (ks : List ByteArray) (f t : ByteArray) (w : World) (hg : TypeIs w) (hs : SrcAny w a cap l) (hl : (l.length : Int) ≤ 70368744177664)
    (hms : Lies w ma 3 mvL ms) (hks : Lies w ka 1 kyL ks) (hml : (ms.length : Int) ≤ 70368744177664) (hkl : (ks.length : Int) ≤ 70368744177664) :
    Calls Tryd.prog 7 #[.slice a l.length cap, .slice ma ms.length mc, .string f, .string t, .slice ka ks.length kc] w fun e w' => e = .returned (.bool true) ∧ Below w.heap.size w w' := by
  have HH := Lib.hid (head_9 w hg)
  have HS := Lib.hid hs
  have HMS := Lib.hid hms
  have HKS := Lib.hid hks
  have HOF : Hid (∀ W, Below w.heap.size w W → Calls Tryd.prog 10 #[.slice a l.length cap] W (OfLeft W l)) := fun W hb => of_10 a cap l W (HS.out.below hb) hl
  obtain ⟨n, hn⟩ : ∃ n, n = l.length := ⟨_, rfl⟩
  obtain ⟨mn, hmn⟩ : ∃ n, n = ms.length := ⟨_, rfl⟩
  obtain ⟨kn, hkn⟩ : ∃ n, n = ks.length := ⟨_, rfl⟩
  have HMN := Lib.hid hmn
  have HKN := Lib.hid hkn
  rw [← hn] at HOF ⊢
  rw [← hmn] at hml ⊢
  rw [← hkn] at hkl ⊢
  clear hg hs hl hn hms hks hmn hkn
  go_enter Tryd.func7, Tryd.ntmps7
  go_wp2_with fail
  refine HH.out.mono ?_
  rintro e w1 ⟨rfl, hb⟩
  have HB1 := Lib.hid hb
  clear hb
  go_wp2_with fail
  refine (HOF.out _ HB1.out).mono ?_
  rintro e w2 h
  cases ho : ofErr l with
  | some q =>
    obtain ⟨rfl, hb⟩ := own_of_err h ho
    have HB2 := Lib.hid (HB1.out.trans (hb.mono HB1.out.size))
    obtain ⟨T, v, hE⟩ := errOf_form q.1 [(routeW, q.2)]
    rw [show rErr q.1 q.2 = .iface T v from hE]
    clear hb h ho hE
    go_wp2_with fail
    go_ret
    exact ⟨rfl, HB2.out⟩
  | none =>
    obtain ⟨r, rfl, hown, hb⟩ := own_of h HB1.out ho
    have HO2 := Lib.hid hown
    clear hb h ho hown
    by_cases hm60 : (60 : Int) < (mn : Int)
    · go_wp2_with fail
      go_ret
      exact ⟨rfl, HO2.out.2.1⟩
    by_cases hk60 : (60 : Int) < (kn : Int)
    · go_wp2_with fail
      go_ret
      exact ⟨rfl, HO2.out.2.1⟩
    have hm9 : (mn : Int) ≤ 60 := by omega
    have hk9 : (kn : Int) ≤ 60 := by omega
    clear hml hkl
    have P0 : Hid (RtOwn w r (mvsL l (ms.take 0)) w2) := HO2.out
    go_wp2_with fail
    go_loopw [14] (fun i wr => ∃ j : Nat, j ≤ mn ∧ i = .int .i64 j ∧ Hid (RtOwn w r (mvsL l (ms.take j)) wr)) (fun i _ => mn - (intOf i).toNat)
    case atStart => exact ⟨0, by omega, rfl, P0⟩
    case round =>
      clear P0
      obtain ⟨j, hj, rfl, HI⟩ := hrel
      by_cases hlt : j < mn
      · obtain ⟨m, hm⟩ : ∃ x, ms[j]? = some x := ⟨_, List.getElem?_eq_getElem (by rw [← HMN.out]; exact hlt)⟩
        obtain ⟨g, o, rfl, lg, hc⟩ := (HMS.out.below HI.out.2.1).at hm
        have d0 : wr.cell? ⟨g, o + j * 3, none⟩ = some (.string m.fr) := hc 0 _ rfl
        have d1 : wr.cell? ⟨g, o + j * 3 + 1, none⟩ = some (.string m.tt) := hc 1 _ rfl
        have d2 : wr.cell? ⟨g, o + j * 3 + 2, none⟩ = some (.int .i64 m.sh) := hc 2 _ rfl
        have hj0 : (0 : Int) ≤ (j : Int) := by omega
        have hj1 : (j : Int) < (mn : Int) := by omega
        have hd : Below wr.heap.size wr wr.drew := ⟨rfl, rfl, rfl, Nat.le_refl _, fun _ _ => rfl⟩
        have HMV := Lib.hid (own_move (HI.out.below hd) m.fr m.tt m.sh)
        have HSN := Lib.hid (mvs_snoc l (ms.take j) m)
        have HTK := Lib.hid (take_snoc hm)
        clear hm hc hd
        go_wp2_with fail
        refine wp_region_tail 16 (by kernel_rfl) (by kernel_rfl) ?_
        simp only [List.take_succ_cons, List.take_zero, List.drop_succ_cons, List.drop_zero]
        repeat still_step
        refine wpStill_nil ?_
        go_wp2_with fail
        refine HMV.out.mono ?_
        rintro e w3 ⟨rfl, hown, _⟩
        have HNX : Hid (RtOwn w r (mvsL l (ms.take (j + 1))) w3) := by
          show RtOwn _ _ _ _
          rw [HTK.out, HSN.out]
          exact hown
        clear hown
        go_wp2_with fail
        exact ⟨⟨j + 1, by omega, by simp, HNX⟩, by simp [intOf]; omega⟩
      · obtain rfl : j = mn := by omega
        obtain ⟨L, hL⟩ : ∃ L, L = mvsL l (ms.take j) := ⟨_, rfl⟩
        rw [← hL] at HI
        clear hL
        obtain ⟨wS, rfl⟩ : ∃ x : World, x = wr := ⟨_, rfl⟩
        have HOK := Lib.hid HI.out.ok
        have HON := Lib.hid (own_one HI.out f t)
        have HI1 := Lib.hid (one_iff HOK.out f t)
        have HIN : Hid (∀ k, oneB L f t = true → inB f t k = true → ow pc0 L k = oneX L f t) := fun k h1 hk => by rw [oneX_in h1]; exact one_in HOK.out h1 hk
        have HIF : Hid (oneB L f t = true → ow pc0 L f = oneX L f t) := fun h1 => (oneX_in h1).symm
        obtain ⟨x, hx⟩ : ∃ x, x = oneX L f t := ⟨_, rfl⟩
        obtain ⟨ib, hib⟩ : ∃ ib, ib = oneB L f t := ⟨_, rfl⟩
        rw [← hx, ← hib] at HON
        rw [← hib] at HI1
        rw [← hx, ← hib] at HIF
        have HIN : Hid (∀ k, ib = true → inB f t k = true → ow pc0 L k = x) := fun k h1 hk => by rw [hx]; rw [hib] at h1; exact HIN.out k h1 hk
        clear hx hib
        go_wp2_with fail
        refine HON.out.mono ?_
        rintro e w3 ⟨rfl, hown, hb⟩
        obtain ⟨w4, hw4⟩ : ∃ w4, w4 = w3.alloc (.cells #[.string x.fr, .int .i64 x.sh, .int .i64 x.ep] 35) := ⟨_, rfl⟩
        obtain ⟨x4, hx4⟩ : ∃ x, x = w3.heap.size := ⟨_, rfl⟩
        have hb4 : Below w3.heap.size w3 w4 := by rw [hw4]; exact (Below.refl _ w3).alloc (Nat.le_refl _) _
        have HX4 : Hid (w4.heap[x4]? = some (.cells #[.string x.fr, .int .i64 x.sh, .int .i64 x.ep] 35 (0, 0))) := by show _ = _; rw [hw4, hx4]; exact heap_alloc_new w3 _
        have HO4 := Lib.hid (hown.below hb4)
        clear hown hb hb4 HON HI
        go_upto_region 10 with fail
        rw [← hw4, ← hx4]
        clear hw4 hx4
        obtain ⟨rb, hrb⟩ : ∃ rb, rb = rangedB f t := ⟨_, rfl⟩
        have HRB := Lib.hid hrb
        rw [← hrb] at HI1
        clear hrb
        go_cut [17] from 75 to 91 (fun v wx => v = .bool rb ∧ w4 = wx)
        case first =>
          have HE : Hid (rangedB f t = (decide (f.size ≤ 16) && decide (t.size ≤ 16) && (decide (t.size = 0) || lessK f t))) := Lib.hid rfl
          by_cases h1 : f.size ≤ 16
          · have e1 : (f.size : Int) ≤ 16 := by omega
            by_cases h2 : t.size ≤ 16
            · have e2 : (t.size : Int) ≤ 16 := by omega
              by_cases h3 : t.size = 0
              · obtain rfl := size_empty h3
                have HV : Hid (rb = true) := Lib.hid (by rw [HRB.out, HE.out]; simp [h1])
                clear HE h1 h2 h3
                go_wp2_with fail
                go_meet
                exact ⟨by rw [HV.out], rfl⟩
              · have e4 := empty_ne h3
                have HV : Hid (rb = lessK f t) := Lib.hid (by rw [HRB.out, HE.out]; simp [h1, h2, h3])
                clear HE h1 h2 h3
                go_wp2_with fail
                go_meet
                exact ⟨by rw [HV.out]; rfl, rfl⟩
            · have e2 : ¬ (t.size : Int) ≤ 16 := by omega
              have HV : Hid (rb = false) := Lib.hid (by rw [HRB.out, HE.out]; simp [h2])
              clear HE h1 h2
              go_wp2_with fail
              go_meet
              exact ⟨by rw [HV.out], rfl⟩
          · have e1 : ¬ (f.size : Int) ≤ 16 := by omega
            have HV : Hid (rb = false) := Lib.hid (by rw [HRB.out, HE.out]; simp [h1])
            clear HE h1
            go_wp2_with fail
            go_meet
            exact ⟨by rw [HV.out], rfl⟩
        case rest =>
          obtain ⟨rfl, rfl⟩ := hcut
          have HPC := Lib.hid (own_pieces HO4.out)
          go_wp2_with fail
          refine HPC.out.mono ?_
          rintro e w5 ⟨hrow, hown, hb⟩
          obtain ⟨a19, c19, rfl, hri⟩ := rowLeft_is hrow
          obtain ⟨q, hq⟩ : ∃ q, q = L.length := ⟨_, rfl⟩
          have HQ := Lib.hid hq
          have hq9 : (q : Int) ≤ 32 := by have := HOK.out.len; omega
          rw [← hq] at hri ⊢
          have P1 : Hid (RtOwn w r L w5 ∧ RowIs w5 (.slice a19 q c19) L ∧ Below w4.heap.size w4 w5) := ⟨hown, hri, hb⟩
          have P2 : Hid ((L.take 0).any (begB2 f t) = false) := rfl
          clear hrow hri hown hb hq HPC
          go_wp2_with fail
          go_loopw [18, 20] (fun v i wr => ∃ j : Nat, ∃ b : Bool, j ≤ q ∧ v = .bool b ∧ i = .int .i64 j ∧ Hid ((L.take j).any (begB2 f t) = b) ∧ wr = w5) (fun _ i _ => q - (intOf i).toNat)
          case atStart => exact ⟨0, false, by omega, rfl, rfl, P2, rfl⟩
          case round =>
            clear P2
            obtain ⟨j2, b, hj2, rfl, rfl, HA, ew⟩ := hrel
            obtain rfl : w5 = wr := ew.symm
            by_cases hlt2 : j2 < q
            · obtain ⟨y, hy⟩ : ∃ y, L[j2]? = some y := ⟨_, List.getElem?_eq_getElem (by rw [← HQ.out]; exact hlt2)⟩
              obtain ⟨g, o, rfl, lg, hc⟩ := P1.out.2.1.src.2.lies j2 y hy
              have d0 : w5.cell? ⟨g, o + j2 * 3, none⟩ = some (.string y.fr) := hc 0 _ rfl
              have hj0 : (0 : Int) ≤ (j2 : Int) := by omega
              have hj1 : (j2 : Int) < (q : Int) := by omega
              have HT := any_take (p := begB2 f t) hy
              rw [HA.out] at HT
              have HTT := Lib.hid HT
              clear hy hc HT
              cases b with
              | true =>
                have HNX : Hid ((L.take (j2 + 1)).any (begB2 f t) = true) := HTT.out
                clear HTT
                go_wp2_with fail
                exact ⟨⟨j2 + 1, true, by omega, rfl, by simp, HNX, trivial⟩, by simp [intOf]; omega⟩
              | false =>
                cases h1 : lessK f y.fr with
                | false =>
                  have hgt := gtF h1
                  have HNX : Hid ((L.take (j2 + 1)).any (begB2 f t) = false) := by show _ = _; rw [HTT.out]; unfold begB2; rw [h1]; rfl
                  clear HTT h1
                  go_wp2_with fail
                  exact ⟨⟨j2 + 1, false, by omega, by simp, by simp, HNX, trivial⟩, by simp [intOf]; omega⟩
                | true =>
                  have hgt := gtT h1
                  by_cases h0 : t.size = 0
                  · obtain rfl := size_empty h0
                    have HNX : Hid ((L.take (j2 + 1)).any (begB2 f ByteArray.empty) = true) := by show _ = _; rw [HTT.out]; unfold begB2; rw [h1]; rfl
                    clear HTT h1 h0
                    go_wp2_with fail
                    exact ⟨⟨j2 + 1, true, by omega, by simp, by simp, HNX, trivial⟩, by simp [intOf]; omega⟩
                  · have e4 := empty_ne h0
                    obtain ⟨b2, h2⟩ : ∃ b2, Op.bytesLess y.fr.toList t.toList = b2 := ⟨_, rfl⟩
                    have HNX : Hid ((L.take (j2 + 1)).any (begB2 f t) = b2) := by show _ = _; rw [HTT.out]; unfold begB2; rw [h1, show lessK y.fr t = b2 from h2]; simp [h0]
                    clear HTT h1 h0
                    go_wp2_with fail
                    exact ⟨⟨j2 + 1, b2, by omega, by simp, by simp, HNX, trivial⟩, by simp [intOf]; omega⟩
            · obtain rfl : j2 = q := by omega
              have HBG : Hid (ib = (rb && !b)) := by
                have h1 := HA.out
                rw [List.take_of_length_le (by rw [← HQ.out]; exact Nat.le_refl _)] at h1
                show _ = _
                rw [HI1.out, h1]
              have hx5 := (P1.out.2.2.block _ (lt_of_heap HX4.out)).trans HX4.out
              have HX5 := Lib.hid hx5
              clear hx5 HI1 HA
              cases rb with
              | false =>
                obtain rfl : ib = false := HBG.out
                go_wp2_with fail
                go_quiet (fail)
                have PXX : Hid (∀ q, RtOwn w r L (w5.drewN q) ∧ Below w5.heap.size w5 (w5.drewN q)) := fun q => by
                  have hd : Below w5.heap.size w5 (w5.drewN q) := ⟨rfl, rfl, rfl, Nat.le_refl _, fun _ _ => rfl⟩
                  exact ⟨P1.out.1.below hd, hd⟩
                have P3 : ∀ q, Hid (RtOwn w r L (w5.drewN q) ∧ Below w5.heap.size w5 (w5.drewN q)) := PXX.out
                go_wp2_with fail
                go_loopw [21] (fun i wr => ∃ j : Nat, j ≤ kn ∧ i = .int .i64 j ∧ Hid (RtOwn w r L wr ∧ Below w5.heap.size w5 wr)) (fun i _ => kn - (intOf i).toNat)
                case atStart => exact ⟨0, by omega, rfl, P3 _⟩
                case round =>
                  clear P3
                  obtain ⟨j3, hj3, rfl, HJ⟩ := hrel
                  by_cases hlt3 : j3 < kn
                  · have HD : Hid (∀ W, Below wr.heap.size wr W → RtOwn w r L W ∧ Below w5.heap.size w5 W) := fun W hb => ⟨HJ.out.1.below hb, HJ.out.2.trans (hb.mono HJ.out.2.size)⟩
                    have HDQ : Hid (∀ q, Below wr.heap.size wr (wr.drewN q)) := fun q => ⟨rfl, rfl, rfl, Nat.le_refl _, fun _ _ => rfl⟩
                    have hj0 : (0 : Int) ≤ (j3 : Int) := by omega
                    have hj1 : (j3 : Int) < (kn : Int) := by omega
                    go_wp2_with fail
                    go_quiet (fail)
                    go_wp2_with fail
                    exact ⟨⟨j3 + 1, by omega, by simp, HD.out _ (HDQ.out _)⟩, by simp [intOf]; omega⟩
                  · obtain rfl : j3 = kn := by omega
                    go_wp2_with fail
                    go_ret
                    exact ⟨rfl, HJ.out.1.2.1⟩

              | true =>
                cases b with
                | true =>
                  obtain rfl : ib = false := HBG.out
                  go_wp2_with fail
                  go_quiet (fail)
                  have PXX : Hid (∀ q, RtOwn w r L (w5.drewN q) ∧ Below w5.heap.size w5 (w5.drewN q)) := fun q => by
                    have hd : Below w5.heap.size w5 (w5.drewN q) := ⟨rfl, rfl, rfl, Nat.le_refl _, fun _ _ => rfl⟩
                    exact ⟨P1.out.1.below hd, hd⟩
                  have P3 : ∀ q, Hid (RtOwn w r L (w5.drewN q) ∧ Below w5.heap.size w5 (w5.drewN q)) := PXX.out
                  go_wp2_with fail
                  go_loopw [21] (fun i wr => ∃ j : Nat, j ≤ kn ∧ i = .int .i64 j ∧ Hid (RtOwn w r L wr ∧ Below w5.heap.size w5 wr)) (fun i _ => kn - (intOf i).toNat)
                  case atStart => exact ⟨0, by omega, rfl, P3 _⟩
                  case round =>
                    clear P3
                    obtain ⟨j3, hj3, rfl, HJ⟩ := hrel
                    by_cases hlt3 : j3 < kn
                    · have HD : Hid (∀ W, Below wr.heap.size wr W → RtOwn w r L W ∧ Below w5.heap.size w5 W) := fun W hb => ⟨HJ.out.1.below hb, HJ.out.2.trans (hb.mono HJ.out.2.size)⟩
                      have HDQ : Hid (∀ q, Below wr.heap.size wr (wr.drewN q)) := fun q => ⟨rfl, rfl, rfl, Nat.le_refl _, fun _ _ => rfl⟩
                      have hj0 : (0 : Int) ≤ (j3 : Int) := by omega
                      have hj1 : (j3 : Int) < (kn : Int) := by omega
                      go_wp2_with fail
                      go_quiet (fail)
                      go_wp2_with fail
                      exact ⟨⟨j3 + 1, by omega, by simp, HD.out _ (HDQ.out _)⟩, by simp [intOf]; omega⟩
                    · obtain rfl : j3 = kn := by omega
                      go_wp2_with fail
                      go_ret
                      exact ⟨rfl, HJ.out.1.2.1⟩

                | false =>
                  obtain rfl : ib = true := HBG.out
                  have HQ1 : Hid (∀ X : Later w5, Calls Tryd.prog 12 #[.pointer (some ⟨r, 0, none⟩), .string f] X.1 fun e w' => e = .returned (.agg #[.string x.fr, .int .i64 x.sh, .int .i64 x.ep]) ∧ ∃ Y : Later w5, w' = Y.1) := fun X => later_call (by
                    have h := own_ownerB (P1.out.1.below X.2) f
                    rw [HIF.out (by simp)] at h
                    exact h)
                  have x0 : ∀ X : Later w5, X.1.cell? ⟨x4, 0, none⟩ = some (.string x.fr) := fun X => by rw [cell_of_row _ _ _ _ _ _ ((X.2.block _ (lt_of_heap HX5.out)).trans HX5.out)]; rfl
                  have x1 : ∀ X : Later w5, X.1.cell? ⟨x4, 1, none⟩ = some (.int .i64 x.sh) := fun X => by rw [cell_of_row _ _ _ _ _ _ ((X.2.block _ (lt_of_heap HX5.out)).trans HX5.out)]; rfl
                  have x2 : ∀ X : Later w5, X.1.cell? ⟨x4, 2, none⟩ = some (.int .i64 x.ep) := fun X => by rw [cell_of_row _ _ _ _ _ _ ((X.2.block _ (lt_of_heap HX5.out)).trans HX5.out)]; rfl
                  go_wp2_with fail
                  have here := Later.here w5
                  refine wp_region_later (by kernel_rfl) (by kernel_rfl) ?_
                  iterate 17 (with_reducible refine wpQuiet_step (fun K hK => ?_); (try go_simp); first | (refine hK _ ?_; clear hK K) | (apply Exists.intro; refine ⟨fun _ => ?_, hK _ ?_⟩; (go_at_call 12; with_reducible exact HQ1.out _); clear hK K))
                  with_reducible refine wpQuiet_nil ?_
                  intro X
                  have PX : RtOwn w r L X.1 ∧ Below w5.heap.size w5 X.1 := ⟨P1.out.1.below X.2, X.2⟩
                  clear x0 x1 x2
                  have P3 : Hid (RtOwn w r L X.1 ∧ Below w5.heap.size w5 X.1) := PX
                  go_wp2_with fail
                  go_loopw [21] (fun i wr => ∃ j : Nat, j ≤ kn ∧ i = .int .i64 j ∧ Hid (RtOwn w r L wr ∧ Below w5.heap.size w5 wr)) (fun i _ => kn - (intOf i).toNat)
                  case atStart => exact ⟨0, by omega, rfl, P3⟩
                  case round =>
                    clear P3
                    obtain ⟨j3, hj3, rfl, HJ⟩ := hrel
                    by_cases hlt3 : j3 < kn
                    · have HD : Hid (∀ W, Below wr.heap.size wr W → RtOwn w r L W ∧ Below w5.heap.size w5 W) := fun W hb => ⟨HJ.out.1.below hb, HJ.out.2.trans (hb.mono HJ.out.2.size)⟩
                      have HDQ : Hid (∀ q, Below wr.heap.size wr (wr.drewN q)) := fun q => ⟨rfl, rfl, rfl, Nat.le_refl _, fun _ _ => rfl⟩
                      have hj0 : (0 : Int) ≤ (j3 : Int) := by omega
                      have hj1 : (j3 : Int) < (kn : Int) := by omega
                      obtain ⟨k, hk⟩ : ∃ x, ks[j3]? = some x := ⟨_, List.getElem?_eq_getElem (by rw [← HKN.out]; exact hlt3)⟩
                      obtain ⟨g, o, rfl, lg, hc⟩ := (HKS.out.below HJ.out.1.2.1).at hk
                      have k0 : wr.cell? ⟨g, o + j3, none⟩ = some (.string k) := by have := hc 0 _ rfl; simpa using this
                      have hxr := (HJ.out.2.block _ (lt_of_heap HX5.out)).trans HX5.out
                      have HXR := Lib.hid hxr
                      have HK0 : Hid (∀ X : Later wr, X.1.cell? ⟨g, o + j3, none⟩ = some (.string k)) := fun X => (X.2.cell (p := ⟨g, _, none⟩) lg).trans k0
                      clear hxr hc hk
                      cases h1 : lessK k f with
                      | true =>
                        have b1 : Op.bytesLess k.toList f.toList = true := h1
                        clear h1
                        go_wp2_with fail
                        go_quiet (fail)
                        go_wp2_with fail
                        exact ⟨⟨j3 + 1, by omega, by simp, HD.out _ (HDQ.out _)⟩, by simp [intOf]; omega⟩
                      | false =>
                        have b1 : Op.bytesLess k.toList f.toList = false := h1
                        by_cases h0 : t.size = 0
                        · obtain rfl := size_empty h0
                          have HKI : Hid (inB f ByteArray.empty k = true) := by show _ = _; unfold inB; rw [h1]; rfl
                          clear h1 h0
                          have HQ2 : Hid (∀ X : Later wr, Calls Tryd.prog 12 #[.pointer (some ⟨r, 0, none⟩), .string k] X.1 fun e w' => e = .returned (.agg #[.string x.fr, .int .i64 x.sh, .int .i64 x.ep]) ∧ ∃ Y : Later wr, w' = Y.1) := fun X => later_call (by
                            have h := own_ownerB (HD.out X.1 X.2).1 k
                            rw [HIN.out k (by simp) HKI.out] at h
                            exact h)
                          clear k0
                          have k0 : ∀ X : Later wr, X.1.cell? ⟨g, o + j3, none⟩ = some (.string k) := HK0.out
                          have x0 : ∀ X : Later wr, X.1.cell? ⟨x4, 0, none⟩ = some (.string x.fr) := fun X => by rw [cell_of_row _ _ _ _ _ _ ((X.2.block _ (lt_of_heap HXR.out)).trans HXR.out)]; rfl
                          have x1 : ∀ X : Later wr, X.1.cell? ⟨x4, 1, none⟩ = some (.int .i64 x.sh) := fun X => by rw [cell_of_row _ _ _ _ _ _ ((X.2.block _ (lt_of_heap HXR.out)).trans HXR.out)]; rfl
                          have x2 : ∀ X : Later wr, X.1.cell? ⟨x4, 2, none⟩ = some (.int .i64 x.ep) := fun X => by rw [cell_of_row _ _ _ _ _ _ ((X.2.block _ (lt_of_heap HXR.out)).trans HXR.out)]; rfl
                          go_wp2_with fail
                          have here := Later.here wr
                          refine wp_region_later (by kernel_rfl) (by kernel_rfl) ?_
                          iterate 31 (with_reducible refine wpQuiet_step (fun K hK => ?_); (try go_simp); first | (refine hK _ ?_; clear hK K) | (apply Exists.intro; refine ⟨fun _ => ?_, hK _ ?_⟩; (go_at_call 12; with_reducible exact HQ2.out _); clear hK K))
                          with_reducible refine wpQuiet_nil ?_
                          intro X
                          clear k0 x0 x1 x2
                          go_wp2_with fail
                          exact ⟨⟨j3 + 1, by omega, by simp, HD.out _ X.2⟩, by simp [intOf]; omega⟩
                        · have e4 := empty_ne h0
                          cases h2 : lessK k t with
                          | true =>
                            have b2 : Op.bytesLess k.toList t.toList = true := h2
                            have HKI : Hid (inB f t k = true) := by show _ = _; unfold inB; rw [h1, h2]; simp
                            clear h1 h0 h2
                            have HQ2 : Hid (∀ X : Later wr, Calls Tryd.prog 12 #[.pointer (some ⟨r, 0, none⟩), .string k] X.1 fun e w' => e = .returned (.agg #[.string x.fr, .int .i64 x.sh, .int .i64 x.ep]) ∧ ∃ Y : Later wr, w' = Y.1) := fun X => later_call (by
                              have h := own_ownerB (HD.out X.1 X.2).1 k
                              rw [HIN.out k (by simp) HKI.out] at h
                              exact h)
                            clear k0
                            have k0 : ∀ X : Later wr, X.1.cell? ⟨g, o + j3, none⟩ = some (.string k) := HK0.out
                            have x0 : ∀ X : Later wr, X.1.cell? ⟨x4, 0, none⟩ = some (.string x.fr) := fun X => by rw [cell_of_row _ _ _ _ _ _ ((X.2.block _ (lt_of_heap HXR.out)).trans HXR.out)]; rfl
                            have x1 : ∀ X : Later wr, X.1.cell? ⟨x4, 1, none⟩ = some (.int .i64 x.sh) := fun X => by rw [cell_of_row _ _ _ _ _ _ ((X.2.block _ (lt_of_heap HXR.out)).trans HXR.out)]; rfl
                            have x2 : ∀ X : Later wr, X.1.cell? ⟨x4, 2, none⟩ = some (.int .i64 x.ep) := fun X => by rw [cell_of_row _ _ _ _ _ _ ((X.2.block _ (lt_of_heap HXR.out)).trans HXR.out)]; rfl
                            go_wp2_with fail
                            have here := Later.here wr
                            refine wp_region_later (by kernel_rfl) (by kernel_rfl) ?_
                            iterate 31 (with_reducible refine wpQuiet_step (fun K hK => ?_); (try go_simp); first | (refine hK _ ?_; clear hK K) | (apply Exists.intro; refine ⟨fun _ => ?_, hK _ ?_⟩; (go_at_call 12; with_reducible exact HQ2.out _); clear hK K))
                            with_reducible refine wpQuiet_nil ?_
                            intro X
                            clear k0 x0 x1 x2
                            go_wp2_with fail
                            exact ⟨⟨j3 + 1, by omega, by simp, HD.out _ X.2⟩, by simp [intOf]; omega⟩
                          | false =>
                            have b2 : Op.bytesLess k.toList t.toList = false := h2
                            clear h1 h0 h2
                            go_wp2_with fail
                            go_quiet (fail)
                            go_wp2_with fail
                            exact ⟨⟨j3 + 1, by omega, by simp, HD.out _ (HDQ.out _)⟩, by simp [intOf]; omega⟩
                    · obtain rfl : j3 = kn := by omega
                      go_wp2_with fail
                      go_ret
                      exact ⟨rfl, HJ.out.1.2.1⟩

end Go.Proofs.YtemgcliihbjjiaaDoor
