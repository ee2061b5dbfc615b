/- Txn: TxnApart. -/
import Derived.Test.YtaifmfnmgnmgbaaGreatDoorTxLaw1
import Derived.Test.YtaifmfnmgnmgbaaGreatDoorTxLaws
namespace Go.Proofs.YtaifmfnmgnmgbaaGreatDoor.Txn
open Go.RowKit Go.My

set_option maxRecDepth 100000 in
set_option maxHeartbeats 6400000 in
theorem apartlaw_any (z1 z2 : TxZ) (a : Option Addr) (cap : Nat) (L : List Ent) (w : World) (hg : TypeIs w) (hz1 : TIn w z1) (hz2 : TIn w z2) (hL : SrcAny w a cap L) (hG : Good L) :
    Calls Tryz.prog 6 #[txV z1.t z1.ra z1.rc z1.wa z1.wc, txV z2.t z2.ra z2.rc z2.wa z2.wc, .slice a L.length cap] w (BoolL w true) := by
  obtain ⟨t, ra1, rc1, wa1, wc1⟩ := z1
  obtain ⟨u, ra2, rc2, wa2, wc2⟩ := z2
  obtain ⟨hwide1, hn11, hn12⟩ := hz1
  obtain ⟨hwide2, hn21, hn22⟩ := hz2
  simp only at hwide1 hn11 hn12 hwide2 hn21 hn22
  obtain ⟨V, hV⟩ : ∃ V : World, V = w.alloc (.cells #[.int .i64 t.cl, .int .i64 t.num, .slice ra1 t.R.length rc1, .slice wa1 t.W.length wc1] 25) := ⟨_, rfl⟩
  obtain ⟨q1, hq1⟩ : ∃ q, q = w.heap.size := ⟨_, rfl⟩
  obtain ⟨W, hW⟩ : ∃ W : World, W = V.alloc (.cells #[.int .i64 u.cl, .int .i64 u.num, .slice ra2 u.R.length rc2, .slice wa2 u.W.length wc2] 25) := ⟨_, rfl⟩
  obtain ⟨q2, hq2⟩ : ∃ q, q = V.heap.size := ⟨_, rfl⟩
  have hbv : Below w.heap.size w V := by rw [hV]; exact bl_alloc _ _
  have hbw : Below V.heap.size V W := by rw [hW]; exact bl_alloc _ _
  have hb : Below w.heap.size w W := bl_trans hbv hbw
  have hbx1 : W.heap[q1]? = some (txC t ra1 rc1 wa1 wc1) := by
    have h1 : V.heap[q1]? = some (txC t ra1 rc1 wa1 wc1) := by rw [hV, hq1]; exact heap_alloc_new w _
    exact (hbw.block _ (lt_of_heap h1)).trans h1
  have hbx2 : W.heap[q2]? = some (txC u ra2 rc2 wa2 wc2) := by rw [hW, hq2]; exact heap_alloc_new V _
  have HW : Hid (w.alloc (.cells #[.int .i64 t.cl, .int .i64 t.num, .slice ra1 t.R.length rc1, .slice wa1 t.W.length wc1] 25) = V ∧ w.heap.size = q1 ∧ V.alloc (.cells #[.int .i64 u.cl, .int .i64 u.num, .slice ra2 u.R.length rc2, .slice wa2 u.W.length wc2] 25) = W ∧ q1 + 1 = q2) := ⟨hV.symm, hq1.symm, hW.symm, by rw [hq2, hV, hq1]; simp⟩
  have HB := Lib.hid hb
  have HWI := Lib.hid (And.intro hwide1 hwide2)
  have HN2 := Lib.hid (And.intro (And.intro hn11 hn12) (And.intro hn21 hn22))
  have HD := Lib.hid (head_any W (hg.below hg.lt hb))
  have HOF : Hid (∀ X, Below w.heap.size w X → Calls Tryz.prog 14 #[.slice a L.length cap] X (OfLeft X L)) := fun X hX => of_9 a cap L X (hL.below hX) hG.1 hG.2
  unfold txV
  obtain ⟨cl1, hcl1⟩ : ∃ cl, cl = t.cl := ⟨_, rfl⟩
  obtain ⟨num1, hnum1⟩ : ∃ num, num = t.num := ⟨_, rfl⟩
  obtain ⟨rn1, hrn1⟩ : ∃ rn, rn = t.R.length := ⟨_, rfl⟩
  obtain ⟨wn1, hwn1⟩ : ∃ wn, wn = t.W.length := ⟨_, rfl⟩
  have HF1 : Hid (cl1 = t.cl ∧ num1 = t.num ∧ rn1 = t.R.length ∧ wn1 = t.W.length) := ⟨hcl1, hnum1, hrn1, hwn1⟩
  have HBX1 : Hid (Box W q1 cl1 num1 ra1 rn1 rc1 wa1 wn1 wc1) := ⟨by rw [hcl1, hnum1, hrn1, hwn1]; exact hbx1⟩
  have HVV1 : Hid (∀ f r X E, Calls Tryz.prog f (#[txV t ra1 rc1 wa1 wc1] ++ r) X E → Calls Tryz.prog f (#[.agg #[.int .i64 cl1, .int .i64 num1, .slice ra1 rn1 rc1, .slice wa1 wn1 wc1]] ++ r) X E) := fun f r X E h => by
    rw [hcl1, hnum1, hrn1, hwn1]
    exact h
  rw [← hcl1, ← hnum1, ← hrn1, ← hwn1] at HW
  obtain ⟨cl2, hcl2⟩ : ∃ cl, cl = u.cl := ⟨_, rfl⟩
  obtain ⟨num2, hnum2⟩ : ∃ num, num = u.num := ⟨_, rfl⟩
  obtain ⟨rn2, hrn2⟩ : ∃ rn, rn = u.R.length := ⟨_, rfl⟩
  obtain ⟨wn2, hwn2⟩ : ∃ wn, wn = u.W.length := ⟨_, rfl⟩
  have HF2 : Hid (cl2 = u.cl ∧ num2 = u.num ∧ rn2 = u.R.length ∧ wn2 = u.W.length) := ⟨hcl2, hnum2, hrn2, hwn2⟩
  have HBX2 : Hid (Box W q2 cl2 num2 ra2 rn2 rc2 wa2 wn2 wc2) := ⟨by rw [hcl2, hnum2, hrn2, hwn2]; exact hbx2⟩
  have HVV2 : Hid (∀ f r X E, Calls Tryz.prog f (#[txV u ra2 rc2 wa2 wc2] ++ r) X E → Calls Tryz.prog f (#[.agg #[.int .i64 cl2, .int .i64 num2, .slice ra2 rn2 rc2, .slice wa2 wn2 wc2]] ++ r) X E) := fun f r X E h => by
    rw [hcl2, hnum2, hrn2, hwn2]
    exact h
  rw [← hcl2, ← hnum2, ← hrn2, ← hwn2] at HW
  obtain ⟨n, hn⟩ : ∃ n, n = L.length := ⟨_, rfl⟩
  have HN := Lib.hid hn
  rw [← hn] at HOF
  rw [← hcl1, ← hnum1, ← hrn1, ← hwn1, ← hcl2, ← hnum2, ← hrn2, ← hwn2, ← hn]
  have HGR1 : Hid (∀ X, Below w.heap.size w X → Calls Tryz.prog 9 #[.agg #[.int .i64 cl1, .int .i64 num1, .slice ra1 rn1 rc1, .slice wa1 wn1 wc1]] X (GrL X t)) := fun X hX => HVV1.out _ #[] X _ (great_any t ra1 rc1 wa1 wc1 X (hwide1.below hX))
  have HGR2 : Hid (∀ X, Below w.heap.size w X → Calls Tryz.prog 9 #[.agg #[.int .i64 cl2, .int .i64 num2, .slice ra2 rn2 rc2, .slice wa2 wn2 wc2]] X (GrL X u)) := fun X hX => HVV2.out _ #[] X _ (great_any u ra2 rc2 wa2 wc2 X (hwide2.below hX))
  clear hg hV hW hq1 hq2 hbv hbw hb hbx1 hbx2 hcl1 hnum1 hrn1 hwn1 hcl2 hnum2 hrn2 hwn2 hn hwide1 hwide2 hn11 hn12 hn21 hn22 hL hG
  go_enter Tryz.func6, Tryz.ntmps6
  go_upto_region 1 with fail
  rw [HW.out.1, HW.out.2.1, HW.out.2.2.1, HW.out.2.2.2]
  go_wp2_with fail
  refine HD.out.mono ?_
  rintro e w1 ⟨rfl, hb1⟩
  have HB1 := Lib.hid (bl_trans HB.out hb1)
  have HXA1 := Lib.hid (HBX1.out.below hb1)
  have HXB1 := Lib.hid (HBX2.out.below hb1)
  have HO := Lib.hid (HOF.out w1 HB1.out)
  clear hb1 HD
  go_wp2_with fail
  refine HO.out.mono ?_
  rintro e w2 ⟨hb2, ⟨rfl, _⟩ | ⟨p1, sa, sc, rfl, hok, hp, hs1, hs2⟩⟩
  · have HB2 := Lib.hid (bl_trans HB1.out hb2)
    have HO2 := Lib.hid (HOF.out w2 HB2.out)
    clear hb2 HO
    go_wp2_with fail
    refine HO2.out.mono ?_
    rintro e w3 ⟨hb3, ⟨rfl, _⟩ | ⟨p2, sa, sc, rfl, hok, hp, hs1, hs2⟩⟩
    · have HB3 := Lib.hid (bl_trans HB2.out hb3)
      clear hb3 HO2
      go_wp2_with fail
      go_ret
      exact ⟨rfl, HB3.out⟩
    · have HB3 := Lib.hid (bl_trans HB2.out hb3)
      clear hb3 HO2 hok hp hs1 hs2
      go_wp2_with fail
      go_ret
      exact ⟨rfl, HB3.out⟩
  · have HB2 := Lib.hid (bl_trans HB1.out hb2)
    have HXA2 := Lib.hid (HXA1.out.below hb2)
    have HXB2 := Lib.hid (HXB1.out.below hb2)
    have HS2 : Hid (StoreAt w2 p1 sa sc L) := ⟨hs1, hs2, hok.up⟩
    have HOK := Lib.hid hok
    have HPP : Hid (w.heap.size ≤ p1) := Nat.le_trans HB1.out.size hp
    have HO2 := Lib.hid (HOF.out w2 HB2.out)
    clear hb2 HO hok hp hs1 hs2
    go_wp2_with fail
    refine HO2.out.mono ?_
    rintro e w3 ⟨hb3, ⟨rfl, _⟩ | ⟨p2, sa2, sc2, rfl, hok, hp, hs1, hs2⟩⟩
    · have HB3 := Lib.hid (bl_trans HB2.out hb3)
      clear hb3 HO2
      go_wp2_with fail
      go_ret
      exact ⟨rfl, HB3.out⟩
    · have HB3 := Lib.hid (bl_trans HB2.out hb3)
      have HXA3 := Lib.hid (HXA2.out.below hb3)
      have HXB3 := Lib.hid (HXB2.out.below hb3)
      have HT3 : Hid (TwoSt w p1 p2 L L w3) := ⟨HB3.out, HPP.out, Nat.le_trans HB2.out.size hp, by have := lt_of_heap HS2.out.cell; omega, HOK.out, HOK.out, ⟨sa, sc, HS2.out.below hb3⟩, ⟨sa2, sc2, ⟨hs1, hs2, hok.up⟩⟩⟩
      have HG1 := Lib.hid (HGR1.out w3 HB3.out)
      clear hb3 HO2 hok hp hs1 hs2 HS2
      obtain ⟨z0, z1, z2, z3⟩ := HXA3.out.cells
      go_wp2_with fail
      refine HG1.out.mono ?_
      rintro e w4 ⟨g1, rfl, hgf1, hb4⟩
      have HB4 := Lib.hid (bl_trans HB3.out hb4)
      have HXA4 := Lib.hid (HXA3.out.below hb4)
      have HXB4 := Lib.hid (HXB3.out.below hb4)
      have HT4 := Lib.hid (HT3.out.later hb4)
      have HGF1 := Lib.hid hgf1
      have HG2 := Lib.hid (HGR2.out w4 HB4.out)
      clear z0 z1 z2 z3 hb4 hgf1 HG1
      obtain ⟨z0, z1, z2, z3⟩ := HXB4.out.cells
      cases g1 with
      | true =>
        go_wp2_with fail
        go_ret
        exact ⟨rfl, HB4.out⟩
      | false =>
        go_wp2_with fail
        refine HG2.out.mono ?_
        rintro e w5 ⟨g2, rfl, hgf2, hb5⟩
        have HB5 := Lib.hid (bl_trans HB4.out hb5)
        have HXA5 := Lib.hid (HXA4.out.below hb5)
        have HXB5 := Lib.hid (HXB4.out.below hb5)
        have HT5 := Lib.hid (HT4.out.later hb5)
        have HGF2 := Lib.hid hgf2
        clear z0 z1 z2 z3 hb5 hgf2 HG2
        obtain ⟨z0, z1, z2, z3⟩ := HXA5.out.cells
        cases g2 with
        | true =>
          go_wp2_with fail
          go_ret
          exact ⟨rfl, HB5.out⟩
        | false =>
          by_cases h90 : (90 : Int) < (n : Int)
          · go_wp2_with fail
            go_ret
            exact ⟨rfl, HB5.out⟩
          · have H90 : Hid (L.length ≤ 90) := by have := HN.out; show _ ≤ _; omega
            have HTA : Hid (∀ X, Below w.heap.size w X → TxAt X t ra1 wa1) := fun X hX => (HWI.out.1.below hX).at (HGF1.out (by trivial))
            have HTB : Hid (∀ X, Below w.heap.size w X → TxAt X u ra2 wa2) := fun X hX => (HWI.out.2.below hX).at (HGF2.out (by trivial))
            have HCA : Hid (Calls Tryz.prog 11 #[.agg #[.int .i64 cl1, .int .i64 num1, .slice ra1 rn1 rc1, .slice wa1 wn1 wc1]] w5 fun e w' => e = .returned (errOfT (rightT t)) ∧ Below w5.heap.size w5 w') := HVV1.out _ #[] w5 _ (check_any t ra1 rc1 wa1 wc1 w5 (HTA.out w5 HB5.out))
            obtain ⟨rt, hrt⟩ : ∃ b, b = rightT t := ⟨_, rfl⟩
            rw [← hrt] at HCA
            have HRT := Lib.hid hrt
            clear hrt HGF1 HGF2 HGR1 HGR2 HOF
            go_wp2_with fail
            refine HCA.out.mono ?_
            rintro e w6 ⟨rfl, hb6⟩
            have HB6 := Lib.hid (bl_trans HB5.out hb6)
            have HXA6 := Lib.hid (HXA5.out.below hb6)
            have HXB6 := Lib.hid (HXB5.out.below hb6)
            have HT6 := Lib.hid (HT5.out.later hb6)
            clear z0 z1 z2 z3 hb6 HCA
            obtain ⟨z0, z1, z2, z3⟩ := HXB6.out.cells
            cases rt with
            | false =>
              unfold errOfT errTx
              simp only [Bool.false_eq_true, if_false]
              go_wp2_with fail
              go_ret
              exact ⟨rfl, HB6.out⟩
            | true =>
              have HCB : Hid (Calls Tryz.prog 11 #[.agg #[.int .i64 cl2, .int .i64 num2, .slice ra2 rn2 rc2, .slice wa2 wn2 wc2]] w6 fun e w' => e = .returned (errOfT (rightT u)) ∧ Below w6.heap.size w6 w') := HVV2.out _ #[] w6 _ (check_any u ra2 rc2 wa2 wc2 w6 (HTB.out w6 HB6.out))
              obtain ⟨ru, hru⟩ : ∃ b, b = rightT u := ⟨_, rfl⟩
              rw [← hru] at HCB
              have HRU := Lib.hid hru
              clear hru
              rw [show errOfT true = Value.nilIface from rfl]
              go_wp2_with fail
              refine HCB.out.mono ?_
              rintro e w7 ⟨rfl, hb7⟩
              have HB7 := Lib.hid (bl_trans HB6.out hb7)
              have HXA7 := Lib.hid (HXA6.out.below hb7)
              have HXB7 := Lib.hid (HXB6.out.below hb7)
              have HT7 := Lib.hid (HT6.out.later hb7)
              clear z0 z1 z2 z3 hb7 HCB
              obtain ⟨z0, z1, z2, z3⟩ := HXA7.out.cells
              cases ru with
              | false =>
                unfold errOfT errTx
                simp only [Bool.false_eq_true, if_false]
                go_wp2_with fail
                go_ret
                exact ⟨rfl, HB7.out⟩
              | true =>
                have HKA : Hid (Calls Tryz.prog 15 #[.agg #[.int .i64 cl1, .int .i64 num1, .slice ra1 rn1 rc1, .slice wa1 wn1 wc1]] w7 (KysL w7 t)) := HVV1.out _ #[] w7 _ (keys_any t ra1 rc1 wa1 wc1 w7 (HTA.out w7 HB7.out))
                unfold KysL at HKA
                obtain ⟨xn, hxn⟩ : ∃ xn, xn = (keysT t).length := ⟨_, rfl⟩
                rw [← hxn] at HKA
                have HXN := Lib.hid hxn
                have hxn9 : (xn : Int) ≤ 100000 := by have h1 : (keysT t).length ≤ 100000 := keys_right HRT.out.symm; omega
                have HFX : Hid ((keysT t).length ≤ 100000) := keys_right HRT.out.symm
                have HFY : Hid ((keysT u).length ≤ 100000) := keys_right HRU.out.symm
                clear hxn
                rw [show errOfT true = Value.nilIface from rfl]
                go_wp2_with fail
                refine HKA.out.mono ?_
                rintro e w8 ⟨xa, xc, rfl, hkl, hb8⟩
                have HB8 := Lib.hid (bl_trans HB7.out hb8)
                have HXA8 := Lib.hid (HXA7.out.below hb8)
                have HXB8 := Lib.hid (HXB7.out.below hb8)
                have HT8 := Lib.hid (HT7.out.later hb8)
                have HKX := Lib.hid hkl
                have HKB : Hid (Calls Tryz.prog 15 #[.agg #[.int .i64 cl2, .int .i64 num2, .slice ra2 rn2 rc2, .slice wa2 wn2 wc2]] w8 (KysL w8 u)) := HVV2.out _ #[] w8 _ (keys_any u ra2 rc2 wa2 wc2 w8 (HTB.out w8 HB8.out))
                unfold KysL at HKB
                obtain ⟨yn, hyn⟩ : ∃ yn, yn = (keysT u).length := ⟨_, rfl⟩
                rw [← hyn] at HKB
                have HYN := Lib.hid hyn
                clear z0 z1 z2 z3 hb8 hkl hyn HKA
                obtain ⟨z0, z1, z2, z3⟩ := HXB8.out.cells
                go_wp2_with fail
                refine HKB.out.mono ?_
                rintro e w9 ⟨ya, yc, rfl, hkl, hb9⟩
                have HB9 := Lib.hid (bl_trans HB8.out hb9)
                have HT9 := Lib.hid (HT8.out.later hb9)
                have HQ9 : Hid (TwoTx w9 q1 cl1 num1 ra1 rn1 rc1 wa1 wn1 wc1 q2 cl2 num2 ra2 rn2 rc2 wa2 wn2 wc2 xa (keysT t) ya (keysT u)) := ⟨HXA8.out.below hb9, HXB8.out.below hb9, HKX.out.below hb9, hkl⟩
                have P12 : Hid (Below w9.heap.size w9 w9 ∧ ∀ k ∈ (keysT t).take 0, k ∉ keysT u) := ⟨Below.refl _ _, by simp⟩
                clear z0 z1 z2 z3 hb9 hkl HKB HKX
                go_wp2_with fail
                go_loopw [12] (fun i X => ∃ j : Nat, j ≤ xn ∧ i = .int .i64 j ∧ Hid (Below w9.heap.size w9 X ∧ ∀ k ∈ (keysT t).take j, k ∉ keysT u)) (fun i _ => xn - (intOf i).toNat)
                case atStart => exact ⟨0, by omega, rfl, P12⟩
                case round => as_aux_lemma =>
                  clear P12
                  obtain ⟨j, hj, rfl, HJ⟩ := hrel
                  by_cases hlt : j < xn
                  · obtain ⟨k, hk⟩ : ∃ k, (keysT t)[j]? = some k := ⟨_, List.getElem?_eq_getElem (by rw [← HXN.out]; exact hlt)⟩
                    obtain ⟨g, o, rfl, lg, d0⟩ := LiesAt.at1 (e := fun s => .string s) (HQ9.out.kx.below HJ.out.1) hk
                    have HH : Hid (Calls Tryz.prog 19 #[.slice ya yn yc, .string k] wr fun e w' => e = .returned (.bool (hasB (keysT u) k)) ∧ Below wr.heap.size wr w') := by
                      have h := rhas_any ya yc (keysT u) k wr (HQ9.out.ky.below HJ.out.1) HFY.out
                      rw [← HYN.out] at h
                      exact h
                    obtain ⟨hb, hhb⟩ : ∃ b, b = hasB (keysT u) k := ⟨_, rfl⟩
                    rw [← hhb] at HH
                    have hj0 : (0 : Int) ≤ (j : Int) := by omega
                    have hj1 : (j : Int) < (xn : Int) := by omega
                    have hjs : j + 1 ≤ xn := hlt
                    have HKT : Hid ((keysT t).take (j + 1) = (keysT t).take j ++ [k]) := by
                      show _ = _
                      rw [List.take_add_one, hk]
                      rfl
                    have HHB := Lib.hid hhb
                    clear hk hlt lg hhb
                    go_wp2_with fail
                    refine HH.out.mono ?_
                    rintro e w10 ⟨rfl, hb10⟩
                    have HB10 := Lib.hid (bl_trans HJ.out.1 hb10)
                    clear hb10 HH d0
                    cases hb with
                    | true =>
                      have HE := Lib.hid (bl_trans HB9.out HB10.out)
                      go_wp2_with fail
                      go_ret
                      exact ⟨rfl, HE.out⟩
                    | false =>
                      have HNX : Hid (Below w9.heap.size w9 w10 ∧ ∀ k ∈ (keysT t).take (j + 1), k ∉ keysT u) := ⟨HB10.out, by
                        rw [HKT.out]
                        intro k' hk'
                        rcases List.mem_append.1 hk' with hk' | hk'
                        · exact HJ.out.2 k' hk'
                        · rw [List.mem_singleton.1 hk']
                          intro hin
                          have := hasB_iff.2 hin
                          rw [← HHB.out] at this
                          cases this⟩
                      go_wp2_with fail
                      exact ⟨⟨j + 1, hjs, by simp, HNX⟩, by simp [intOf]; omega⟩
                  · obtain rfl : xn = j := by omega
                    have HDIS : Hid (∀ k ∈ keysT t, k ∉ keysT u) := by
                      have h := HJ.out.2
                      rw [List.take_of_length_le (by rw [HXN.out]; exact Nat.le_refl _)] at h
                      exact h
                    have HT0 := Lib.hid (HT9.out.later HJ.out.1)
                    have HQ0 := Lib.hid (HQ9.out.later HJ.out.1)
                    have HXC : Hid (xa = none → True) := fun _ => trivial
                    have HFI : Hid (∀ X La Lb, TwoSt w p1 p2 La Lb X → TwoTx X q1 cl1 num1 ra1 rn1 rc1 wa1 wn1 wc1 q2 cl2 num2 ra2 rn2 rc2 wa2 wn2 wc2 xa (keysT t) ya (keysT u) → Calls Tryz.prog 16 #[.agg #[.int .i64 cl2, .int .i64 num2, .slice ra2 rn2 rc2, .slice wa2 wn2 wc2], .pointer (some ⟨p1, 0, none⟩), .slice ya yn yc] X (BoolL X (fitsT La u (keysT u)))) := fun X La Lb h1 h2 => by
                      obtain ⟨a9, c9, s9⟩ := h1.s1
                      have h := fits_any u ra2 rc2 wa2 wc2 p1 a9 c9 La ya yc (keysT u) X (HTB.out X h1.below) HN2.out.2.1 HN2.out.2.2 s9 (by have := h1.o1.few; omega) h2.ky HFY.out
                      rw [← HYN.out] at h
                      exact HVV2.out _ #[.pointer (some ⟨p1, 0, none⟩), .slice ya yn yc] X _ h
                    have HA11 : Hid (∀ X La Lb, TwoSt w p1 p2 La Lb X → TwoTx X q1 cl1 num1 ra1 rn1 rc1 wa1 wn1 wc1 q2 cl2 num2 ra2 rn2 rc2 wa2 wn2 wc2 xa (keysT t) ya (keysT u) → Calls Tryz.prog 17 #[.agg #[.int .i64 cl1, .int .i64 num1, .slice ra1 rn1 rc1, .slice wa1 wn1 wc1], .pointer (some ⟨p1, 0, none⟩), .slice xa xn xc] X fun e X' => ∃ ev L', e = .returned ev ∧ ErrS La t.W L' ev ∧ TwoSt w p1 p2 L' Lb X' ∧ TwoTx X' q1 cl1 num1 ra1 rn1 rc1 wa1 wn1 wc1 q2 cl2 num2 ra2 rn2 rc2 wa2 wn2 wc2 xa (keysT t) ya (keysT u)) := fun X La Lb h1 h2 => by
                      obtain ⟨a9, c9, s9⟩ := h1.s1
                      have h := apply_any t ra1 rc1 wa1 wc1 p1 a9 c9 La xa xc (keysT t) X (HTA.out X h1.below) HN2.out.1.2 s9 h1.o1 h2.kx HFX.out
                      rw [all_named, ← HXN.out] at h
                      refine (HVV1.out _ #[.pointer (some ⟨p1, 0, none⟩), .slice xa xn xc] X _ h).mono ?_
                      intro e X' he
                      obtain ⟨ev, L', e1, e2, e3, e4, e5⟩ := apply_errs he
                      exact ⟨ev, L', e1, e2, h1.put1 e4 e3 e5, h2.put s9 e4⟩
                    have HA21 : Hid (∀ X La Lb, TwoSt w p1 p2 La Lb X → TwoTx X q1 cl1 num1 ra1 rn1 rc1 wa1 wn1 wc1 q2 cl2 num2 ra2 rn2 rc2 wa2 wn2 wc2 xa (keysT t) ya (keysT u) → Calls Tryz.prog 17 #[.agg #[.int .i64 cl2, .int .i64 num2, .slice ra2 rn2 rc2, .slice wa2 wn2 wc2], .pointer (some ⟨p1, 0, none⟩), .slice ya yn yc] X fun e X' => ∃ ev L', e = .returned ev ∧ ErrS La u.W L' ev ∧ TwoSt w p1 p2 L' Lb X' ∧ TwoTx X' q1 cl1 num1 ra1 rn1 rc1 wa1 wn1 wc1 q2 cl2 num2 ra2 rn2 rc2 wa2 wn2 wc2 xa (keysT t) ya (keysT u)) := fun X La Lb h1 h2 => by
                      obtain ⟨a9, c9, s9⟩ := h1.s1
                      have h := apply_any u ra2 rc2 wa2 wc2 p1 a9 c9 La ya yc (keysT u) X (HTB.out X h1.below) HN2.out.2.2 s9 h1.o1 h2.ky HFY.out
                      rw [all_named, ← HYN.out] at h
                      refine (HVV2.out _ #[.pointer (some ⟨p1, 0, none⟩), .slice ya yn yc] X _ h).mono ?_
                      intro e X' he
                      obtain ⟨ev, L', e1, e2, e3, e4, e5⟩ := apply_errs he
                      exact ⟨ev, L', e1, e2, h1.put1 e4 e3 e5, h2.put s9 e4⟩
                    have HA22 : Hid (∀ X La Lb, TwoSt w p1 p2 La Lb X → TwoTx X q1 cl1 num1 ra1 rn1 rc1 wa1 wn1 wc1 q2 cl2 num2 ra2 rn2 rc2 wa2 wn2 wc2 xa (keysT t) ya (keysT u) → Calls Tryz.prog 17 #[.agg #[.int .i64 cl2, .int .i64 num2, .slice ra2 rn2 rc2, .slice wa2 wn2 wc2], .pointer (some ⟨p2, 0, none⟩), .slice ya yn yc] X fun e X' => ∃ ev L', e = .returned ev ∧ ErrS Lb u.W L' ev ∧ TwoSt w p1 p2 La L' X' ∧ TwoTx X' q1 cl1 num1 ra1 rn1 rc1 wa1 wn1 wc1 q2 cl2 num2 ra2 rn2 rc2 wa2 wn2 wc2 xa (keysT t) ya (keysT u)) := fun X La Lb h1 h2 => by
                      obtain ⟨a9, c9, s9⟩ := h1.s2
                      have h := apply_any u ra2 rc2 wa2 wc2 p2 a9 c9 Lb ya yc (keysT u) X (HTB.out X h1.below) HN2.out.2.2 s9 h1.o2 h2.ky HFY.out
                      rw [all_named, ← HYN.out] at h
                      refine (HVV2.out _ #[.pointer (some ⟨p2, 0, none⟩), .slice ya yn yc] X _ h).mono ?_
                      intro e X' he
                      obtain ⟨ev, L', e1, e2, e3, e4, e5⟩ := apply_errs he
                      exact ⟨ev, L', e1, e2, h1.put2 e4 e3 e5, h2.put s9 e4⟩
                    have HA12 : Hid (∀ X La Lb, TwoSt w p1 p2 La Lb X → TwoTx X q1 cl1 num1 ra1 rn1 rc1 wa1 wn1 wc1 q2 cl2 num2 ra2 rn2 rc2 wa2 wn2 wc2 xa (keysT t) ya (keysT u) → Calls Tryz.prog 17 #[.agg #[.int .i64 cl1, .int .i64 num1, .slice ra1 rn1 rc1, .slice wa1 wn1 wc1], .pointer (some ⟨p2, 0, none⟩), .slice xa xn xc] X fun e X' => ∃ ev L', e = .returned ev ∧ ErrS Lb t.W L' ev ∧ TwoSt w p1 p2 La L' X' ∧ TwoTx X' q1 cl1 num1 ra1 rn1 rc1 wa1 wn1 wc1 q2 cl2 num2 ra2 rn2 rc2 wa2 wn2 wc2 xa (keysT t) ya (keysT u)) := fun X La Lb h1 h2 => by
                      obtain ⟨a9, c9, s9⟩ := h1.s2
                      have h := apply_any t ra1 rc1 wa1 wc1 p2 a9 c9 Lb xa xc (keysT t) X (HTA.out X h1.below) HN2.out.1.2 s9 h1.o2 h2.kx HFX.out
                      rw [all_named, ← HXN.out] at h
                      refine (HVV1.out _ #[.pointer (some ⟨p2, 0, none⟩), .slice xa xn xc] X _ h).mono ?_
                      intro e X' he
                      obtain ⟨ev, L', e1, e2, e3, e4, e5⟩ := apply_errs he
                      exact ⟨ev, L', e1, e2, h1.put2 e4 e3 e5, h2.put s9 e4⟩
                    obtain ⟨fb, hfb⟩ : ∃ b, b = fitsT L u (keysT u) := ⟨_, rfl⟩
                    have HFB := Lib.hid hfb
                    have HF1 := HFI.out wr L L HT0.out HQ0.out
                    rw [← hfb] at HF1
                    have HFX1 := Lib.hid HF1
                    clear HF1 hfb HXC HJ
                    obtain ⟨z0, z1, z2, z3⟩ := HQ0.out.b2.cells
                    go_wp2_with fail
                    refine HFX1.out.mono ?_
                    rintro e v1 ⟨rfl, hbb⟩
                    have HTS1 := Lib.hid (HT0.out.later hbb)
                    have HQS1 := Lib.hid (HQ0.out.later hbb)
                    clear hbb z0 z1 z2 z3 HFX1
                    obtain ⟨z0, z1, z2, z3⟩ := HQS1.out.b1.cells
                    have HAX := Lib.hid (HA11.out _ _ _ HTS1.out HQS1.out)
                    go_wp2_with fail
                    refine HAX.out.mono ?_
                    rintro e v2 ⟨ea, Laa, rfl, her, hts, hqs⟩
                    have HEea := Lib.hid her
                    have HTS2 := Lib.hid hts
                    have HQS2 := Lib.hid hqs
                    clear her hts hqs z0 z1 z2 z3 HAX
                    obtain ⟨z0, z1, z2, z3⟩ := HQS2.out.b2.cells
                    have HFX2 := Lib.hid (HFI.out _ _ _ HTS2.out HQS2.out)
                    obtain ⟨fc, hfc⟩ : ∃ b, b = fitsT Laa u (keysT u) := ⟨_, rfl⟩
                    rw [← hfc] at HFX2
                    have HFC := Lib.hid hfc
                    clear hfc
                    go_wp2_with fail
                    refine HFX2.out.mono ?_
                    rintro e v3 ⟨rfl, hbb⟩
                    have HTS3 := Lib.hid (HTS2.out.later hbb)
                    have HQS3 := Lib.hid (HQS2.out.later hbb)
                    clear hbb z0 z1 z2 z3 HFX2
                    obtain ⟨z0, z1, z2, z3⟩ := HQS3.out.b2.cells
                    have HAX := Lib.hid (HA21.out _ _ _ HTS3.out HQS3.out)
                    go_wp2_with fail
                    refine HAX.out.mono ?_
                    rintro e v4 ⟨eb, Lab, rfl, her, hts, hqs⟩
                    have HEeb := Lib.hid her
                    have HTS4 := Lib.hid hts
                    have HQS4 := Lib.hid hqs
                    clear her hts hqs z0 z1 z2 z3 HAX
                    obtain ⟨z0, z1, z2, z3⟩ := HQS4.out.b2.cells
                    have HAX := Lib.hid (HA22.out _ _ _ HTS4.out HQS4.out)
                    go_wp2_with fail
                    refine HAX.out.mono ?_
                    rintro e v5 ⟨ec, Lba, rfl, her, hts, hqs⟩
                    have HEec := Lib.hid her
                    have HTS5 := Lib.hid hts
                    have HQS5 := Lib.hid hqs
                    clear her hts hqs z0 z1 z2 z3 HAX
                    obtain ⟨z0, z1, z2, z3⟩ := HQS5.out.b1.cells
                    have HAX := Lib.hid (HA12.out _ _ _ HTS5.out HQS5.out)
                    go_wp2_with fail
                    refine HAX.out.mono ?_
                    rintro e v6 ⟨ed, Lbb, rfl, her, hts, hqs⟩
                    have HEed := Lib.hid her
                    have HTS6 := Lib.hid hts
                    have HQS6 := Lib.hid hqs
                    clear her hts hqs z0 z1 z2 z3 HAX
                    clear HA11 HA21 HA22 HA12 HFI
                    have HBE : Hid (Below w.heap.size w v6) := HTS6.out.below
                    rcases HEea.out with ⟨rfl, hA⟩ | ⟨T, v, rfl⟩
                    case inr =>
                      go_wp2_with fail
                      go_ret
                      exact ⟨rfl, HBE.out⟩
                    rcases HEeb.out with ⟨rfl, hB⟩ | ⟨T, v, rfl⟩
                    case inr =>
                      go_wp2_with fail
                      go_ret
                      exact ⟨rfl, HBE.out⟩
                    rcases HEec.out with ⟨rfl, hC⟩ | ⟨T, v, rfl⟩
                    case inr =>
                      go_wp2_with fail
                      go_ret
                      exact ⟨rfl, HBE.out⟩
                    rcases HEed.out with ⟨rfl, hD⟩ | ⟨T, v, rfl⟩
                    case inr =>
                      go_wp2_with fail
                      go_ret
                      exact ⟨rfl, HBE.out⟩
                    have HSAME : Hid (Lab = Lbb) := apart_same HOK.out (right_apart HRT.out.symm) (right_apart HRU.out.symm) (fun x hx y hy e => HDIS.out x.key (keysT_mem.2 (.inr ⟨x, hx, rfl⟩)) (keysT_mem.2 (.inr ⟨y, hy, e.symm⟩))) hA hB hC hD
                    have HFS : Hid (fc = fb) := by
                      show _ = _
                      rw [HFC.out, HFB.out]
                      exact apart_fits HOK.out H90.out HRT.out.symm HRU.out.symm HDIS.out hA
                    rw [HFS.out]
                    obtain ⟨R, hR⟩ : ∃ R, R = Lab.filter (inR ⟨#[]⟩ ⟨#[]⟩) := ⟨_, rfl⟩
                    have HR9 : Hid (R.length ≤ 100000) := by
                      have h1 := HTS6.out.o1.few
                      have h2 : R.length ≤ Lab.length := by rw [hR]; exact List.length_filter_le _ _
                      show _ ≤ _
                      omega
                    obtain ⟨rr, hrr⟩ : ∃ n, n = R.length := ⟨_, rfl⟩
                    have HRN := Lib.hid hrr
                    have HR1 : Hid (Calls Tryz.prog 21 #[.pointer (some ⟨p1, 0, none⟩), .string ⟨#[]⟩, .string ⟨#[]⟩] v6 fun e w' => ∃ a c, e = .returned (.slice a rr c) ∧ LiesAt w' a 3 entL R ∧ Below v6.heap.size v6 w') := by
                      obtain ⟨a9, c9, s9⟩ := HTS6.out.s1
                      refine (range_12 p1 a9 c9 Lab ⟨#[]⟩ ⟨#[]⟩ v6 s9 (by have := HTS6.out.o1.few; omega)).mono ?_
                      rw [← hR]
                      intro e w' h
                      rw [hrr]
                      exact range_lies h
                    have HR2 : Hid (∀ X, Below v6.heap.size v6 X → Calls Tryz.prog 21 #[.pointer (some ⟨p2, 0, none⟩), .string ⟨#[]⟩, .string ⟨#[]⟩] X fun e w' => ∃ a c, e = .returned (.slice a rr c) ∧ LiesAt w' a 3 entL R ∧ Below X.heap.size X w') := fun X hX => by
                      obtain ⟨a9, c9, s9⟩ := (HTS6.out.later hX).s2
                      refine (range_12 p2 a9 c9 Lbb ⟨#[]⟩ ⟨#[]⟩ X s9 (by have := HTS6.out.o2.few; omega)).mono ?_
                      rw [← HSAME.out, ← hR]
                      intro e w' h
                      rw [hrr]
                      exact range_lies h
                    clear hA hB hC hD hR hrr HEea HEeb HEec HEed
                    go_wp2_with fail
                    refine HR1.out.mono ?_
                    rintro e v11 ⟨xa1, xc1, rfl, hl1, hb11⟩
                    have HL11 := Lib.hid hl1
                    have HB11 := Lib.hid hb11
                    have HR22 := Lib.hid (HR2.out _ hb11)
                    clear hl1 hb11 HR1 HR2
                    go_wp2_with fail
                    refine HR22.out.mono ?_
                    rintro e v12 ⟨xa2, xc2, rfl, hl2, hb12⟩
                    have HES := Lib.hid (esame_any xa1 xa2 xc1 xc2 rr R v12 HRN.out (HL11.out.below hb12) hl2 (by rw [HRN.out]; exact HR9.out))
                    have HB12 := Lib.hid (bl_trans (bl_trans HBE.out HB11.out) hb12)
                    clear hl2 hb12 HR22
                    go_wp2_with fail
                    refine HES.out.mono ?_
                    rintro e v13 ⟨rfl, hb13⟩
                    have HB13 := Lib.hid (bl_trans HB12.out hb13)
                    clear hb13 HES
                    go_wp2_with fail
                    go_ret
                    exact ⟨rfl, HB13.out⟩
end Go.Proofs.YtaifmfnmgnmgbaaGreatDoor.Txn
