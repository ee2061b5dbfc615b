/- Txn: TxnWrites. -/
import Derived.Test.YtaifmfnmgnmgbaaGreatDoorTxLaws
namespace Go.Proofs.YtaifmfnmgnmgbaaGreatDoor.Txn
open Go.RowKit Go.My

set_option maxRecDepth 100000 in
set_option maxHeartbeats 6400000 in
theorem writeslaw_any (z : TxZ) (a : Option Addr) (cap : Nat) (L : List Ent) (w : World) (hg : TypeIs w) (hz : TIn w z) (hL : SrcAny w a cap L) (hG : Good L) :
    Calls Tryz.prog 4 #[txV z.t z.ra z.rc z.wa z.wc, .slice a L.length cap] w (BoolL w true) := by
  obtain ⟨t, ra, rc, wa, wc⟩ := z
  obtain ⟨hwide, hn1, hn2⟩ := hz
  simp only at hwide hn1 hn2
  obtain ⟨W, hW⟩ : ∃ W : World, W = w.alloc (.cells #[.int .i64 t.cl, .int .i64 t.num, .slice ra t.R.length rc, .slice wa t.W.length wc] 25) := ⟨_, rfl⟩
  obtain ⟨q, hq⟩ : ∃ q, q = w.heap.size := ⟨_, rfl⟩
  have hb : Below w.heap.size w W := by rw [hW]; exact bl_alloc _ _
  have hbx : W.heap[q]? = some (txC t ra rc wa wc) := by rw [hW, hq]; exact heap_alloc_new w _
  have HW : Hid (w.alloc (.cells #[.int .i64 t.cl, .int .i64 t.num, .slice ra t.R.length rc, .slice wa t.W.length wc] 25) = W ∧ w.heap.size = q) := ⟨hW.symm, hq.symm⟩
  have HQ : Hid (w.heap.size ≤ q) := by rw [hq]; exact Nat.le_refl _
  have HB := Lib.hid hb
  have HWI := Lib.hid hwide
  have HN2 := Lib.hid (And.intro hn1 hn2)
  have HD := Lib.hid (head_any W (hg.below hg.lt hb))
  have HLA : Hid (LiesAt w a 3 entL L) := hL.lies
  have HOF : Hid (∀ X, Below w.heap.size w X → Calls Tryz.prog 14 #[.slice a L.length cap] X (OfLeft X L)) := fun X hX => of_9 a cap L X (hL.below hX) hG.1 hG.2
  unfold txV
  obtain ⟨cl, hcl⟩ : ∃ cl, cl = t.cl := ⟨_, rfl⟩
  obtain ⟨num, hnum⟩ : ∃ num, num = t.num := ⟨_, rfl⟩
  obtain ⟨rn, hrn⟩ : ∃ rn, rn = t.R.length := ⟨_, rfl⟩
  obtain ⟨wn, hwn⟩ : ∃ wn, wn = t.W.length := ⟨_, rfl⟩
  obtain ⟨n, hn⟩ : ∃ n, n = L.length := ⟨_, rfl⟩
  have HF : Hid (cl = t.cl ∧ num = t.num ∧ rn = t.R.length ∧ wn = t.W.length ∧ n = L.length) := ⟨hcl, hnum, hrn, hwn, hn⟩
  have HBX : Hid (Box W q cl num ra rn rc wa wn wc) := ⟨by rw [hcl, hnum, hrn, hwn]; exact hbx⟩
  have HGR : Hid (∀ X, Below w.heap.size w X → Calls Tryz.prog 9 #[.agg #[.int .i64 cl, .int .i64 num, .slice ra rn rc, .slice wa wn wc]] X (GrL X t)) := fun X hX => by
    rw [hcl, hnum, hrn, hwn]
    exact great_any t ra rc wa wc X (hwide.below hX)
  rw [← hcl, ← hnum, ← hrn, ← hwn] at HW
  rw [← hn] at HOF
  rw [← hcl, ← hnum, ← hrn, ← hwn, ← hn]
  clear hg hW hq hb hbx hcl hnum hrn hwn hn hwide hn1 hn2 hL hG
  go_enter Tryz.func4, Tryz.ntmps4
  go_upto_region 1 with fail
  rw [HW.out.1, HW.out.2]
  go_wp2_with fail
  refine HD.out.mono ?_
  rintro e w1 ⟨rfl, hb1⟩
  have HB1 := Lib.hid (bl_trans HB.out hb1)
  have HX1 := Lib.hid (HBX.out.below hb1)
  have HO := Lib.hid (HOF.out w1 HB1.out)
  clear hb1 HD
  go_wp2_with fail
  refine HO.out.mono ?_
  rintro e w2 ⟨hb2, ⟨rfl, _⟩ | ⟨p, sa, sc, rfl, hok, hp, hs1, hs2⟩⟩
  · have HB2 := Lib.hid (bl_trans HB1.out hb2)
    clear hb2 HO
    go_wp2_with fail
    go_ret
    exact ⟨rfl, HB2.out⟩
  · have HB2 := Lib.hid (bl_trans HB1.out hb2)
    have HX2 := Lib.hid (HX1.out.below hb2)
    have HS2 : Hid (StoreAt w2 p sa sc L) := ⟨hs1, hs2, hok.up⟩
    have HOK := Lib.hid hok
    have HPP : Hid (w.heap.size ≤ p) := Nat.le_trans HB1.out.size hp
    have HG := Lib.hid (HGR.out w2 HB2.out)
    obtain ⟨z0, z1, z2, z3⟩ := HX2.out.cells
    clear hb2 HO hok hp hs1 hs2
    go_wp2_with fail
    refine HG.out.mono ?_
    rintro e w3 ⟨g, rfl, hgf, hb3⟩
    have HB3 := Lib.hid (bl_trans HB2.out hb3)
    have HX3 := Lib.hid (HX2.out.below hb3)
    have HS3 := Lib.hid (HS2.out.below hb3)
    have HGF := Lib.hid hgf
    clear z0 z1 z2 z3 hb3 hgf HG
    obtain ⟨z0, z1, z2, z3⟩ := HX3.out.cells
    cases g with
    | true =>
      go_wp2_with fail
      go_ret
      exact ⟨rfl, HB3.out⟩
    | false =>
      by_cases h400 : (400 : Int) < (n : Int)
      · go_wp2_with fail
        go_ret
        exact ⟨rfl, HB3.out⟩
      · have HT3 := Lib.hid ((HWI.out.below HB3.out).at (HGF.out rfl))
        have HCK := check_any t ra rc wa wc w3 HT3.out
        unfold txV at HCK
        rw [← HF.out.1, ← HF.out.2.1, ← HF.out.2.2.1, ← HF.out.2.2.2.1] at HCK
        obtain ⟨rt, hrt⟩ : ∃ b, b = rightT t := ⟨_, rfl⟩
        rw [← hrt] at HCK
        have HRT := Lib.hid hrt
        have HCC := Lib.hid HCK
        have h400' : (n : Int) ≤ 400 := by omega
        have hwn9 : (wn : Int) ≤ 100000 := by have h1 := HT3.out.wl; have h2 := HF.out.2.2.2.1; omega
        clear hrt HCK HGF
        go_wp2_with fail
        refine HCC.out.mono ?_
        rintro e w4 ⟨rfl, hb4⟩
        have HB4 := Lib.hid (bl_trans HB3.out hb4)
        have HX4 := Lib.hid (HX3.out.below hb4)
        have HS4 := Lib.hid (HS3.out.below hb4)
        have HT4 := Lib.hid (HT3.out.below hb4)
        clear hb4 z0 z1 z2 z3 HCC
        cases rt with
        | false =>
          unfold errOfT errTx
          simp only [Bool.false_eq_true, if_false]
          go_wp2_with fail
          go_ret
          exact ⟨rfl, HB4.out⟩
        | true =>
          unfold errOfT
          simp only [if_true]
          have P5 : Hid (∀ e ∈ L.take 0, e.ver < 4611686018427387904) := by
            show ∀ _ ∈ _, _
            simp
          go_wp2_with fail
          go_loopw [7] (fun i W => ∃ j : Nat, j ≤ n ∧ i = .int .i64 j ∧ W = w4 ∧ Hid (∀ e ∈ L.take j, e.ver < 4611686018427387904)) (fun i _ => n - (intOf i).toNat)
          case atStart => exact ⟨0, by omega, rfl, rfl, P5⟩
          case round => as_aux_lemma =>
            clear P5
            obtain ⟨j, hj, rfl, rfl, HJ⟩ := hrel
            by_cases hlt : j < n
            · obtain ⟨⟨ek, ev, en⟩, he⟩ : ∃ e, L[j]? = some e := ⟨_, List.getElem?_eq_getElem (by have := HF.out.2.2.2.2; omega)⟩
              obtain ⟨g, o, rfl, lg, hc⟩ := HLA.out.below HB4.out j _ he
              have d2 : wr.cell? ⟨g, o + j * 3 + 2, none⟩ = some (.int .i64 en) := hc 2 _ rfl
              have hj0 : (0 : Int) ≤ (j : Int) := by omega
              have hj1 : (j : Int) < (n : Int) := by omega
              have HTK : Hid (L.take (j + 1) = L.take j ++ [⟨ek, ev, en⟩]) := by
                show _ = _
                rw [List.take_add_one, he]
                rfl
              clear he hc
              by_cases hv : 4611686018427387904 ≤ en
              · go_wp2_with fail
                go_ret
                exact ⟨rfl, HB4.out⟩
              · have HJ1 : Hid (∀ e ∈ L.take (j + 1), e.ver < 4611686018427387904) := by
                  show ∀ _ ∈ _, _
                  rw [HTK.out]
                  intro e he
                  rcases List.mem_append.1 he with he | he
                  · exact HJ.out e he
                  · rw [List.mem_singleton.1 he]
                    exact Int.not_le.1 hv
                go_wp2_with fail
                exact ⟨⟨j + 1, by omega, by simp, trivial, HJ1⟩, by simp [intOf]; omega⟩
            · obtain rfl : n = j := by omega
              have HVER : Hid (∀ e ∈ L, e.ver < 4611686018427387904) := by
                have h := HJ.out
                rw [List.take_of_length_le (by rw [HF.out.2.2.2.2]; exact Nat.le_refl _)] at h
                exact h
              have HK := keys_any t ra rc wa wc wr HT4.out
              unfold txV KysL at HK
              rw [← HF.out.1, ← HF.out.2.1, ← HF.out.2.2.1, ← HF.out.2.2.2.1] at HK
              obtain ⟨kn, hkn⟩ : ∃ kn, kn = (keysT t).length := ⟨_, rfl⟩
              rw [← hkn] at HK
              have HKK := Lib.hid HK
              have HKN := Lib.hid hkn
              have HFEW : Hid ((keysT t).length ≤ 100000) := keys_right HRT.out.symm
              clear HK hkn HJ
              obtain ⟨z0, z1, z2, z3⟩ := HX4.out.cells
              go_wp2_with fail
              refine HKK.out.mono ?_
              rintro e w5 ⟨ka, kc, rfl, hkl, hb5⟩
              have HB5 := Lib.hid (bl_trans HB4.out hb5)
              have HX5 := Lib.hid (HX4.out.below hb5)
              have HS5 := Lib.hid (HS4.out.below hb5)
              have HT5 := Lib.hid (HT4.out.below hb5)
              have HF5 := fits_any t ra rc wa wc p sa sc L ka kc (keysT t) w5 HT5.out HN2.out.1 HN2.out.2 HS5.out (by have := HF.out.2.2.2.2; omega) hkl HFEW.out
              unfold txV at HF5
              rw [← HF.out.1, ← HF.out.2.1, ← HF.out.2.2.1, ← HF.out.2.2.2.1, ← HKN.out] at HF5
              obtain ⟨ft, hft⟩ : ∃ b, b = fitsT L t (keysT t) := ⟨_, rfl⟩
              rw [← hft] at HF5
              have HFT := Lib.hid hft
              have HFF := Lib.hid HF5
              have HKL := Lib.hid hkl
              clear hkl hb5 HF5 hft HKK z0 z1 z2 z3
              obtain ⟨z0, z1, z2, z3⟩ := HX5.out.cells
              go_wp2_with fail
              refine HFF.out.mono ?_
              rintro e w6 ⟨rfl, hb6⟩
              have HB6 := Lib.hid (bl_trans HB5.out hb6)
              have HX6 := Lib.hid (HX5.out.below hb6)
              have HS6 := Lib.hid (HS5.out.below hb6)
              have HT6 := Lib.hid (HT5.out.below hb6)
              have HKL6 := Lib.hid (HKL.out.below hb6)
              clear hb6 z0 z1 z2 z3 HFF
              cases ft with
              | false =>
                go_wp2_with fail
                go_ret
                exact ⟨rfl, HB6.out⟩
              | true =>
                obtain ⟨L', hL', hok', hnew, hold⟩ := apply_all HOK.out (right_apart HRT.out.symm) (right_bad HRT.out.symm HVER.out) (fits_room HFT.out.symm)
                have HA := apply_well HT6.out HN2.out.2 HS6.out HOK.out HKL6.out HFEW.out hL' (rc := rc) (wc := wc) (kc := kc)
                unfold txV at HA
                rw [← HF.out.1, ← HF.out.2.1, ← HF.out.2.2.1, ← HF.out.2.2.2.1, ← HKN.out] at HA
                have HAA := Lib.hid HA
                have HL2 : Hid (L'.length ≤ 100000) := by have := hok'.few; show _ ≤ _; omega
                have HNEW : Hid (∀ x ∈ t.W, getE L' x.key = some (newE L x.key x.val)) := hnew
                have HOLD : Hid (∀ k, (∀ x ∈ t.W, x.key ≠ k) → getE L' k = getE L k) := hold
                clear HA hL' hok' hnew hold
                obtain ⟨z0, z1, z2, z3⟩ := HX6.out.cells
                go_wp2_with fail
                refine HAA.out.mono ?_
                rintro e w7 ⟨rfl, hw7, sa', sc', hs7⟩
                have HB7 : Hid (Below w.heap.size w w7) := below_at HB6.out hw7 HPP.out
                have HX7 := Lib.hid (HX6.out.keepP HS6.out hw7)
                have HS7 := Lib.hid hs7
                have HGT : Hid (∀ (k : ByteArray) X, Below w7.heap.size w7 X → Calls Tryz.prog 18 #[.pointer (some ⟨p, 0, none⟩), .string k] X (GetLeft X L' k)) := fun k X hX => get_11 p sa' sc' L' k X (HS7.out.below hX) HL2.out
                have P10 : Hid (Below w7.heap.size w7 w7) := Below.refl _ _
                clear hw7 hs7 z0 z1 z2 z3 HAA HKL HKL6
                obtain ⟨z0, z1, z2, z3⟩ := HX7.out.cells
                go_wp2_with fail
                clear z0 z1 z2 z3
                go_loopw [10] (fun i W => ∃ j : Nat, j ≤ wn ∧ i = .int .i64 j ∧ Hid (Below w7.heap.size w7 W)) (fun i _ => wn - (intOf i).toNat)
                case atStart => exact ⟨0, by omega, rfl, P10⟩
                case round => as_aux_lemma =>
                  clear P10
                  obtain ⟨j, hj, rfl, HB⟩ := hrel
                  obtain ⟨z0, z1, z2, z3⟩ := (HX7.out.below HB.out).cells
                  by_cases hlt : j < wn
                  · obtain ⟨⟨xk, xv⟩, hx⟩ : ∃ x, t.W[j]? = some x := ⟨_, List.getElem?_eq_getElem (by have := HF.out.2.2.2.1; omega)⟩
                    obtain ⟨wg, wo, rfl, lwg, hwc⟩ := HWI.out.w j _ hx
                    have HWR : Hid (∀ W, Below w7.heap.size w7 W → W.cell? ⟨wg, wo + j * 2, none⟩ = some (.string xk) ∧ W.cell? ⟨wg, wo + j * 2 + 1, none⟩ = some (.string xv)) := fun W hb => by
                      have hbw := bl_trans HB7.out hb
                      exact ⟨(hbw.cell (p := ⟨wg, _, none⟩) lwg).trans (hwc 0 _ rfl), (hbw.cell (p := ⟨wg, _, none⟩) lwg).trans (hwc 1 _ rfl)⟩
                    have hov : oldV L xk < 4611686018427387904 := by
                      unfold oldV
                      cases hg : getE L xk with
                      | none => decide
                      | some e => exact HVER.out e (get_some hg).1
                    have hov0 := old_nonneg HOK.out xk
                    obtain ⟨ov, hov1⟩ : ∃ z, z = oldV L xk := ⟨_, rfl⟩
                    rw [← hov1] at hov hov0
                    obtain ⟨nv, hnv⟩ : ∃ z, z = ov + 1 := ⟨_, rfl⟩
                    have i1 : IntKind.i64.wrap (ov + 1) = nv := by rw [IntWalk.i64_in _ (by omega), hnv]
                    have HOV := Lib.hid hov1
                    have HGX : Hid (∀ X, Below w7.heap.size w7 X → Calls Tryz.prog 18 #[.pointer (some ⟨p, 0, none⟩), .string xk] X fun e X' => e = .returned (.tuple #[.agg #[.string xk, .string xv, .int .i64 nv], .bool true]) ∧ Below X.heap.size X X') := fun X hX => by
                      have h := HGT.out xk X hX
                      unfold GetLeft gotE at h
                      rw [HNEW.out _ (List.mem_of_getElem? hx)] at h
                      rw [hnv, hov1]
                      exact h
                    have hj0 : (0 : Int) ≤ (j : Int) := by omega
                    have hj1 : (j : Int) < (wn : Int) := by omega
                    have hjs : j + 1 ≤ wn := hlt
                    have P12 : Hid (WasT L xk 0 0 ∧ Below w7.heap.size w7 wr) := ⟨was_zero _ _, HB.out⟩
                    clear hx hwc lwg hov hov0 hov1 hnv hlt
                    go_wp2_with fail
                    clear z0 z1 z2 z3
                    go_loopw [11, 12] (fun v k W => ∃ (m : Nat) (z : Int), m ≤ n ∧ v = .int .i64 z ∧ k = .int .i64 m ∧ Hid (WasT L xk m z ∧ Below w7.heap.size w7 W)) (fun _ k _ => n - (intOf k).toNat)
                    case atStart => exact ⟨0, 0, by omega, rfl, rfl, P12⟩
                    case round => as_aux_lemma =>
                      clear P12 HB
                      obtain ⟨m, z, hm, rfl, rfl, HM⟩ := hrel
                      obtain ⟨z0, z1, z2, z3⟩ := (HX7.out.below HM.out.2).cells
                      obtain ⟨c0, c1⟩ := HWR.out _ HM.out.2
                      by_cases hlm : m < n
                      · obtain ⟨⟨ek, ev, en⟩, he⟩ : ∃ e, L[m]? = some e := ⟨_, List.getElem?_eq_getElem (by have := HF.out.2.2.2.2; omega)⟩
                        obtain ⟨g, o, rfl, lg, hc⟩ := HLA.out.below (bl_trans HB7.out HM.out.2) m _ he
                        have d0 : wr.cell? ⟨g, o + m * 3, none⟩ = some (.string ek) := hc 0 _ rfl
                        have d2 : wr.cell? ⟨g, o + m * 3 + 2, none⟩ = some (.int .i64 en) := hc 2 _ rfl
                        have hm0 : (0 : Int) ≤ (m : Int) := by omega
                        have hm1 : (m : Int) < (n : Int) := by omega
                        have hms : m + 1 ≤ n := hlm
                        have HND : Hid (∀ nq, Below w7.heap.size w7 (wr.drewN nq)) := fun nq => HM.out.2.trans ⟨rfl, rfl, rfl, by simp, fun _ _ => rfl⟩
                        by_cases hk : ek = xk
                        · have hkk : (ek.toList == xk.toList) = true := by rw [hk]; simp
                          have HWN : Hid (∀ nq, Hid (WasT L xk (m + 1) en ∧ Below w7.heap.size w7 (wr.drewN nq))) := fun nq => ⟨was_hit he hk, HND.out nq⟩
                          clear he hc hk lg hlm
                          go_wp2_with fail
                          go_quiet (fail)
                          go_wp2_with fail
                          exact ⟨⟨m + 1, en, hms, rfl, by simp, HWN.out _⟩, by simp [intOf]; omega⟩
                        · have hkk : (ek.toList == xk.toList) = false := key_ne hk
                          have HWN : Hid (∀ nq, Hid (WasT L xk (m + 1) z ∧ Below w7.heap.size w7 (wr.drewN nq))) := fun nq => ⟨was_miss HM.out.1 he hk, HND.out nq⟩
                          clear he hc hk lg hlm
                          go_wp2_with fail
                          go_quiet (fail)
                          go_wp2_with fail
                          exact ⟨⟨m + 1, z, hms, rfl, by simp, HWN.out _⟩, by simp [intOf]; omega⟩
                      · obtain rfl : n = m := by omega
                        have hz : z = ov := by
                          have h := HM.out.1
                          rw [HF.out.2.2.2.2] at h
                          rw [HOV.out]
                          exact was_end HOK.out.up h
                        subst hz
                        have HG := Lib.hid (HGX.out _ HM.out.2)
                        go_wp2_with fail
                        refine HG.out.mono ?_
                        rintro e w9 ⟨rfl, hb9⟩
                        obtain ⟨W10, hW10⟩ : ∃ W : World, W = w9.alloc (.cells #[.string xk, .string xv, .int .i64 nv] 42) := ⟨_, rfl⟩
                        obtain ⟨b10, hb10⟩ : ∃ b, b = w9.heap.size := ⟨_, rfl⟩
                        have hbb : Below w9.heap.size w9 W10 := by rw [hW10]; exact bl_alloc _ _
                        have hbx : W10.heap[b10]? = some (.cells #[.string xk, .string xv, .int .i64 nv] 42 (0, 0)) := by rw [hW10, hb10]; exact heap_alloc_new w9 _
                        have HW10 : Hid (w9.alloc (.cells #[.string xk, .string xv, .int .i64 nv] 42) = W10 ∧ w9.heap.size = b10) := ⟨hW10.symm, hb10.symm⟩
                        have HB10 : Hid (Below w7.heap.size w7 W10) := bl_trans (bl_trans HM.out.2 hb9) hbb
                        have y1 : W10.cell? ⟨b10, 1, none⟩ = some (.string xv) := by rw [cell_of_row _ _ _ _ _ _ hbx]; rfl
                        have y2 : W10.cell? ⟨b10, 2, none⟩ = some (.int .i64 nv) := by rw [cell_of_row _ _ _ _ _ _ hbx]; rfl
                        have hvv : (xv.toList != xv.toList) = false := by simp
                        have HND : Hid (∀ nq, Hid (Below w7.heap.size w7 (W10.drewN nq))) := fun nq => HB10.out.trans ⟨rfl, rfl, rfl, by simp, fun _ _ => rfl⟩
                        clear z0 z1 z2 z3 c0 c1 hb9 hW10 hb10 hbb hbx HG
                        obtain ⟨z0, z1, z2, z3⟩ := (HX7.out.below HB10.out).cells
                        obtain ⟨c0, c1⟩ := HWR.out _ HB10.out
                        go_upto_region 26 with fail
                        rw [HW10.out.1, HW10.out.2]
                        go_quiet (fail)
                        go_wp2_with fail
                        exact ⟨⟨j + 1, hjs, by simp, HND.out _⟩, by simp [intOf]; omega⟩
                  · obtain rfl : wn = j := by omega
                    have P15 : Hid (Below w7.heap.size w7 wr) := HB.out
                    go_wp2_with fail
                    clear z0 z1 z2 z3 HB
                    go_loopw [15] (fun i W => ∃ j : Nat, j ≤ n ∧ i = .int .i64 j ∧ Hid (Below w7.heap.size w7 W)) (fun i _ => n - (intOf i).toNat)
                    case atStart => exact ⟨0, by omega, rfl, P15⟩
                    case round => as_aux_lemma =>
                      clear P15
                      obtain ⟨i, hi, rfl, HB⟩ := hrel
                      by_cases hlt : i < n
                      · obtain ⟨⟨ek, ev, en⟩, he⟩ : ∃ e, L[i]? = some e := ⟨_, List.getElem?_eq_getElem (by have := HF.out.2.2.2.2; omega)⟩
                        obtain ⟨g, o, rfl, lg, hc⟩ := HLA.out i _ he
                        have HFC : Hid (∀ W, Below w7.heap.size w7 W → W.cell? ⟨g, o + i * 3, none⟩ = some (.string ek) ∧ W.cell? ⟨g, o + i * 3 + 1, none⟩ = some (.string ev) ∧ W.cell? ⟨g, o + i * 3 + 2, none⟩ = some (.int .i64 en)) := fun W hb => by
                          have hbw := bl_trans HB7.out hb
                          exact ⟨(hbw.cell (p := ⟨g, _, none⟩) lg).trans (hc 0 _ rfl), (hbw.cell (p := ⟨g, _, none⟩) lg).trans (hc 1 _ rfl), (hbw.cell (p := ⟨g, _, none⟩) lg).trans (hc 2 _ rfl)⟩
                        have HSAME : Hid (wrB t.W ek wn = false → getE L' ek = some ⟨ek, ev, en⟩) := fun hq => by
                          rw [HF.out.2.2.2.1] at hq
                          rw [HOLD.out ek (wrB_none hq)]
                          exact get_mem HOK.out.up (List.mem_of_getElem? he)
                        have hi0 : (0 : Int) ≤ (i : Int) := by omega
                        have hi1 : (i : Int) < (n : Int) := by omega
                        have his : i + 1 ≤ n := hlt
                        have P17 : Hid (Below w7.heap.size w7 wr) := HB.out
                        clear he hc lg hlt
                        go_wp2_with fail
                        go_loopw [16, 17] (fun b k W => ∃ (m : Nat) (q : Bool), m ≤ wn ∧ b = .bool q ∧ k = .int .i64 m ∧ Hid (q = wrB t.W ek m ∧ Below w7.heap.size w7 W)) (fun _ k _ => wn - (intOf k).toNat)
                        case atStart => exact ⟨0, false, by omega, rfl, rfl, rfl, P17.out⟩
                        case round => as_aux_lemma =>
                          clear P17 HB
                          obtain ⟨m, b, hm, rfl, rfl, HM⟩ := hrel
                          obtain ⟨z0, z1, z2, z3⟩ := (HX7.out.below HM.out.2).cells
                          obtain ⟨d0, d1, d2⟩ := HFC.out _ HM.out.2
                          by_cases hlm : m < wn
                          · obtain ⟨⟨xk, xv⟩, hx⟩ : ∃ x, t.W[m]? = some x := ⟨_, List.getElem?_eq_getElem (by have := HF.out.2.2.2.1; omega)⟩
                            obtain ⟨wg, wo, rfl, lwg, hwc⟩ := HWI.out.w.below (bl_trans HB7.out HM.out.2) m _ hx
                            have c0 : wr.cell? ⟨wg, wo + m * 2, none⟩ = some (.string xk) := hwc 0 _ rfl
                            have hm0 : (0 : Int) ≤ (m : Int) := by omega
                            have hm1 : (m : Int) < (wn : Int) := by omega
                            have hms : m + 1 ≤ wn := hlm
                            have HND : Hid (∀ nq, Below w7.heap.size w7 (wr.drewN nq)) := fun nq => HM.out.2.trans ⟨rfl, rfl, rfl, by simp, fun _ _ => rfl⟩
                            have hst := wrB_step (k := ek) hx
                            rw [← HM.out.1] at hst
                            cases b with
                            | true =>
                              have HWN : Hid (∀ nq, Hid (true = wrB t.W ek (m + 1) ∧ Below w7.heap.size w7 (wr.drewN nq))) := fun nq => ⟨by rw [hst]; rfl, HND.out nq⟩
                              clear hx hwc lwg hlm hst
                              go_wp2_with fail
                              go_quiet (fail)
                              go_wp2_with fail
                              exact ⟨⟨m + 1, true, hms, rfl, by simp, HWN.out _⟩, by simp [intOf]; omega⟩
                            | false =>
                              by_cases hk : xk = ek
                              · have hkk : (xk.toList == ek.toList) = true := by rw [hk]; simp
                                have HWN : Hid (∀ nq, Hid (true = wrB t.W ek (m + 1) ∧ Below w7.heap.size w7 (wr.drewN nq))) := fun nq => ⟨by rw [hst]; simp [hk], HND.out nq⟩
                                clear hx hwc lwg hlm hst hk
                                go_wp2_with fail
                                go_quiet (fail)
                                go_wp2_with fail
                                exact ⟨⟨m + 1, true, hms, rfl, by simp, HWN.out _⟩, by simp [intOf]; omega⟩
                              · have hkk : (xk.toList == ek.toList) = false := key_ne hk
                                have HWN : Hid (∀ nq, Hid (false = wrB t.W ek (m + 1) ∧ Below w7.heap.size w7 (wr.drewN nq))) := fun nq => ⟨by rw [hst]; simp [hk], HND.out nq⟩
                                clear hx hwc lwg hlm hst hk
                                go_wp2_with fail
                                go_quiet (fail)
                                go_wp2_with fail
                                exact ⟨⟨m + 1, false, hms, rfl, by simp, HWN.out _⟩, by simp [intOf]; omega⟩
                          · obtain rfl : wn = m := by omega
                            have HG := HGT.out ek wr HM.out.2
                            obtain ⟨⟨yk, yv, yn⟩, hy⟩ : ∃ y, y = (getE L' ek).getD ent0 := ⟨_, rfl⟩
                            obtain ⟨is, his2⟩ : ∃ is, is = (getE L' ek).isSome := ⟨_, rfl⟩
                            have HSM : Hid (b = false → is = true ∧ yk = ek ∧ yv = ev ∧ yn = en) := fun hq => by
                              have h := HSAME.out (HM.out.1.symm.trans hq)
                              rw [h] at hy his2
                              cases hy
                              exact ⟨his2, rfl, rfl, rfl⟩
                            unfold GetLeft gotE entA at HG
                            rw [← hy, ← his2] at HG
                            have HGG := Lib.hid HG
                            clear hy his2 HG
                            go_wp2_with fail
                            refine HGG.out.mono ?_
                            rintro e w9 ⟨rfl, hb9⟩
                            obtain ⟨W10, hW10⟩ : ∃ W : World, W = w9.alloc (.cells #[.string yk, .string yv, .int .i64 yn] 42) := ⟨_, rfl⟩
                            obtain ⟨b10, hb10⟩ : ∃ b, b = w9.heap.size := ⟨_, rfl⟩
                            have hbb : Below w9.heap.size w9 W10 := by rw [hW10]; exact bl_alloc _ _
                            have hbx : W10.heap[b10]? = some (.cells #[.string yk, .string yv, .int .i64 yn] 42 (0, 0)) := by rw [hW10, hb10]; exact heap_alloc_new w9 _
                            have HW10 : Hid (w9.alloc (.cells #[.string yk, .string yv, .int .i64 yn] 42) = W10 ∧ w9.heap.size = b10) := ⟨hW10.symm, hb10.symm⟩
                            have HB10 : Hid (Below w7.heap.size w7 W10) := bl_trans (bl_trans HM.out.2 hb9) hbb
                            have y0 : W10.cell? ⟨b10, 0, none⟩ = some (.string yk) := by rw [cell_of_row _ _ _ _ _ _ hbx]; rfl
                            have y1 : W10.cell? ⟨b10, 1, none⟩ = some (.string yv) := by rw [cell_of_row _ _ _ _ _ _ hbx]; rfl
                            have y2 : W10.cell? ⟨b10, 2, none⟩ = some (.int .i64 yn) := by rw [cell_of_row _ _ _ _ _ _ hbx]; rfl
                            have HND : Hid (∀ nq, Hid (Below w7.heap.size w7 (W10.drewN nq))) := fun nq => HB10.out.trans ⟨rfl, rfl, rfl, by simp, fun _ _ => rfl⟩
                            clear z0 z1 z2 z3 d0 d1 d2 hb9 hW10 hb10 hbb hbx HGG
                            obtain ⟨z0, z1, z2, z3⟩ := (HX7.out.below HB10.out).cells
                            obtain ⟨d0, d1, d2⟩ := HFC.out _ HB10.out
                            go_upto_region 37 with fail
                            rw [HW10.out.1, HW10.out.2]
                            cases b with
                            | true =>
                              go_quiet (fail)
                              go_wp2_with fail
                              exact ⟨⟨i + 1, his, by simp, HND.out _⟩, by simp [intOf]; omega⟩
                            | false =>
                              obtain ⟨rfl, rfl, rfl, rfl⟩ := HSM.out rfl
                              go_quiet (fail)
                              go_wp2_with fail
                              exact ⟨⟨i + 1, his, by simp, HND.out _⟩, by simp [intOf]; omega⟩
                      · obtain rfl : n = i := by omega
                        have HEND : Hid (Below w.heap.size w wr) := bl_trans HB7.out HB.out
                        go_wp2_with fail
                        go_ret
                        exact ⟨rfl, HEND.out⟩
end Go.Proofs.YtaifmfnmgnmgbaaGreatDoor.Txn
