/- Txn: TxnFits. -/
import Derived.Test.YtaifmfnmgnmgbaaGreatDoorTxArgs2
namespace Go.Proofs.YtaifmfnmgnmgbaaGreatDoor.Txn
open Go.RowKit Go.My

theorem lies_rdk {w : World} {g : Nat} {k : ByteArray} {v : Int} (h : w.heap[g]? = some (.cells #[.string k, .int .i64 v] 53 (0, 0))) : LiesAt w (some ⟨g, 0, none⟩) 2 rdL [⟨k, v⟩] := by
  intro i z hi
  refine ⟨g, 0, rfl, lt_of_heap h, fun j u hj => ?_⟩
  rw [cell_of_row w g _ _ _ _ h]
  match i, hi with
  | 0, hi =>
    simp at hi
    subst hi
    match j, hj with
    | 0, hj => simp [rdL] at hj; subst hj; rfl
    | 1, hj => simp [rdL] at hj; subst hj; rfl
    | j + 2, hj => simp [rdL] at hj
  | i + 1, hi => simp at hi
theorem keys_few {t : Tx} (h : t.R.length + t.W.length ≤ 100) : (keysT t).length ≤ 100000 := by
  have := keysB_len (namedT t)
  unfold keysT
  unfold namedT at *
  rw [List.length_append, List.length_map, List.length_map] at this
  omega
theorem fit_wrong (v : Int) (x : Nat) (hx : x ≤ 255) : ¬ v = IntKind.i64.wrap (IntKind.i64.wrap (v + 1) + (x : Int)) := by
  obtain ⟨q1, e1, _, _⟩ := wrap_form (v + 1)
  obtain ⟨q2, e2, _, _⟩ := wrap_form (IntKind.i64.wrap (v + 1) + (x : Int))
  omega
set_option maxRecDepth 100000 in
set_option maxHeartbeats 6400000 in
theorem fitslaw_any (z : TxZ) (a : Option Addr) (cap : Nat) (L : List Ent) (key : ByteArray) (wrong : Nat) (w : World) (hg : TypeIs w) (hz : TIn w z) (hL : SrcAny w a cap L) (hG : Good L) (hwr : wrong ≤ 255) :
    Calls Tryz.prog 5 #[txV z.t z.ra z.rc z.wa z.wc, .slice a L.length cap, .string key, .int .u8 wrong] w (BoolL w true) := by
  obtain ⟨t, ra, rc, wa, wc⟩ := z
  obtain ⟨hwide, hn1, hn2⟩ := hz
  simp only at hwide hn1 hn2
  obtain ⟨W, hW⟩ : ∃ W : World, W = w.alloc (.cells #[.int .i64 t.cl, .int .i64 t.num, .slice ra t.R.length rc, .slice wa t.W.length wc] 25) := ⟨_, rfl⟩
  obtain ⟨q, hq⟩ : ∃ q, q = w.heap.size := ⟨_, rfl⟩
  have hb : Below w.heap.size w W := by rw [hW]; exact bl_alloc _ _
  have hbx : W.heap[q]? = some (txC t ra rc wa wc) := by rw [hW, hq]; exact heap_alloc_new w _
  have HW : Hid (w.alloc (.cells #[.int .i64 t.cl, .int .i64 t.num, .slice ra t.R.length rc, .slice wa t.W.length wc] 25) = W ∧ w.heap.size = q) := ⟨hW.symm, hq.symm⟩
  have HQ : Hid (w.heap.size ≤ q) := by rw [hq]; exact Nat.le_refl _
  have HB := Lib.hid hb
  have HWI := Lib.hid hwide
  have HN2 := Lib.hid hn2
  have HD := Lib.hid (head_any W (hg.below hg.lt hb))
  have HOF : Hid (∀ X, Below w.heap.size w X → Calls Tryz.prog 14 #[.slice a L.length cap] X (OfLeft X L)) := fun X hX => of_9 a cap L X (hL.below hX) hG.1 hG.2
  unfold txV
  obtain ⟨cl, hcl⟩ : ∃ cl, cl = t.cl := ⟨_, rfl⟩
  obtain ⟨num, hnum⟩ : ∃ num, num = t.num := ⟨_, rfl⟩
  obtain ⟨rn, hrn⟩ : ∃ rn, rn = t.R.length := ⟨_, rfl⟩
  obtain ⟨wn, hwn⟩ : ∃ wn, wn = t.W.length := ⟨_, rfl⟩
  obtain ⟨n, hn⟩ : ∃ n, n = L.length := ⟨_, rfl⟩
  have HF : Hid (cl = t.cl ∧ num = t.num ∧ rn = t.R.length ∧ wn = t.W.length ∧ n = L.length) := ⟨hcl, hnum, hrn, hwn, hn⟩
  have HBX : Hid (Box W q cl num ra rn rc wa wn wc) := ⟨by rw [hcl, hnum, hrn, hwn]; exact hbx⟩
  have HGR : Hid (∀ X, Below w.heap.size w X → Calls Tryz.prog 9 #[.agg #[.int .i64 cl, .int .i64 num, .slice ra rn rc, .slice wa wn wc]] X (GrL X t)) := fun X hX => by
    rw [hcl, hnum, hrn, hwn]
    exact great_any t ra rc wa wc X (hwide.below hX)
  rw [← hcl, ← hnum, ← hrn, ← hwn] at HW
  rw [← hn] at HOF
  rw [← hcl, ← hnum, ← hrn, ← hwn, ← hn]
  have HWR : Hid (wrong ≤ 255) := hwr
  clear hg hW hq hb hbx hcl hnum hrn hwn hn hwide hn1 hn2 hL hG hwr
  go_enter Tryz.func5, Tryz.ntmps5
  go_upto_region 1 with fail
  rw [HW.out.1, HW.out.2]
  go_wp2_with fail
  refine HD.out.mono ?_
  rintro e w1 ⟨rfl, hb1⟩
  have HB1 := Lib.hid (bl_trans HB.out hb1)
  have HX1 := Lib.hid (HBX.out.below hb1)
  have HO := Lib.hid (HOF.out w1 HB1.out)
  clear hb1 HD
  go_wp2_with fail
  refine HO.out.mono ?_
  rintro e w2 ⟨hb2, ⟨rfl, _⟩ | ⟨p, sa, sc, rfl, hok, hp, hs1, hs2⟩⟩
  · have HB2 := Lib.hid (bl_trans HB1.out hb2)
    clear hb2 HO
    go_wp2_with fail
    go_ret
    exact ⟨rfl, HB2.out⟩
  · have HB2 := Lib.hid (bl_trans HB1.out hb2)
    have HX2 := Lib.hid (HX1.out.below hb2)
    have HS2 : Hid (StoreAt w2 p sa sc L) := ⟨hs1, hs2, hok.up⟩
    have HOK := Lib.hid hok
    have HPP : Hid (w.heap.size ≤ p) := Nat.le_trans HB1.out.size hp
    have HG := Lib.hid (HGR.out w2 HB2.out)
    obtain ⟨z0, z1, z2, z3⟩ := HX2.out.cells
    clear hb2 HO hok hp hs1 hs2
    go_wp2_with fail
    refine HG.out.mono ?_
    rintro e w3 ⟨g, rfl, hgf, hb3⟩
    have HB3 := Lib.hid (bl_trans HB2.out hb3)
    have HX3 := Lib.hid (HX2.out.below hb3)
    have HS3 := Lib.hid (HS2.out.below hb3)
    have HGF := Lib.hid hgf
    clear z0 z1 z2 z3 hb3 hgf HG
    obtain ⟨z0, z1, z2, z3⟩ := HX3.out.cells
    cases g with
    | true =>
      go_wp2_with fail
      go_ret
      exact ⟨rfl, HB3.out⟩
    | false =>
      by_cases h90 : (90 : Int) < (n : Int)
      · go_wp2_with fail
        go_ret
        exact ⟨rfl, HB3.out⟩
      · by_cases h20 : (20 : Int) < (wn : Int)
        · go_wp2_with fail
          go_ret
          exact ⟨rfl, HB3.out⟩
        · have HSM : Hid (L.length ≤ 90 ∧ t.W.length ≤ 20) := by
            have h1 := HF.out.2.2.2.1
            have h2 := HF.out.2.2.2.2
            exact ⟨by omega, by omega⟩
          have hf2 := HX3.out.fz 2
          obtain ⟨W4, hW4⟩ : ∃ W4 : World, W4 = w3.setCell ⟨q, 2, none⟩ (.slice none 0 0) := ⟨_, rfl⟩
          have hw4 : Wrote [q] w3 W4 := by rw [hW4]; exact Box.wrote _ _ _
          have HW4 : Hid (w3.setCell ⟨q, 2, none⟩ (.slice none 0 0) = W4) := hW4.symm
          have HX4 : Hid (Box W4 q cl num none 0 0 wa wn wc) := by show Box _ _ _ _ _ _ _ _ _ _; rw [hW4]; exact HX3.out.set none 0 0
          have HB4 : Hid (Below w.heap.size w W4) := below_at HB3.out hw4 HQ.out
          have HS4 : Hid (StoreAt W4 p sa sc L) := HX3.out.store HS3.out hw4
          have HT4 : Hid (TxAt W4 ⟨cl, num, [], t.W⟩ none wa) := ⟨LiesAt.nil _ _ _ _, HWI.out.w.below HB4.out, by simp, by have := HSM.out.2; show t.W.length ≤ _; omega⟩
          have HK := keys_any ⟨cl, num, [], t.W⟩ none 0 wa wc W4 HT4.out
          unfold txV KysL at HK
          simp only [List.length_nil] at HK
          rw [← HF.out.2.2.2.1] at HK
          have HKK := Lib.hid HK
          obtain ⟨kn, hkn⟩ : ∃ kn, kn = (keysT ⟨cl, num, [], t.W⟩).length := ⟨_, rfl⟩
          rw [← hkn] at HKK
          have HKN := Lib.hid hkn
          clear hW4 hw4 HK hkn HGF
          go_upto_region 6 with fail
          rw [HW4.out]
          clear z0 z1 z2 z3 hf2
          obtain ⟨z0, z1, z2, z3⟩ := HX4.out.cells
          go_wp2_with fail
          refine HKK.out.mono ?_
          rintro e w5 ⟨ka, kc, rfl, hkl, hb5⟩
          have HB5 := Lib.hid (bl_trans HB4.out hb5)
          have HX5 := Lib.hid (HX4.out.below hb5)
          have HS5 := Lib.hid (HS4.out.below hb5)
          have HF5 := fits_any ⟨cl, num, [], t.W⟩ none 0 wa wc p sa sc L ka kc (keysT ⟨cl, num, [], t.W⟩) w5 (HT4.out.below hb5) (by simp) HN2.out HS5.out (by have := HSM.out.1; omega) hkl (keys_few (by have := HSM.out.2; show 0 + t.W.length ≤ 100; omega))
          unfold txV at HF5
          simp only [List.length_nil] at HF5
          rw [← HF.out.2.2.2.1, ← HKN.out, fits_nil HSM.out.1 HSM.out.2] at HF5
          have HFF := Lib.hid HF5
          clear hkl hb5 HF5 HKK z0 z1 z2 z3
          obtain ⟨z0, z1, z2, z3⟩ := HX5.out.cells
          go_wp2_with fail
          refine HFF.out.mono ?_
          rintro e w6 ⟨rfl, hb6⟩
          have HB6 := Lib.hid (bl_trans HB5.out hb6)
          have HX6 := Lib.hid (HX5.out.below hb6)
          have HS6 := Lib.hid (HS5.out.below hb6)
          obtain ⟨⟨yk, yv, yn⟩, hy⟩ : ∃ y, y = (getE L key).getD ent0 := ⟨_, rfl⟩
          obtain ⟨is, his⟩ : ∃ is, is = (getE L key).isSome := ⟨_, rfl⟩
          have HY : Hid (oldV L key = yn) := by
            show ((getE L key).getD ent0).ver = yn
            rw [← hy]
          have HG6 := get_11 p sa sc L key w6 HS6.out (by have := HSM.out.1; omega)
          unfold GetLeft gotE entA at HG6
          rw [← hy, ← his] at HG6
          have HGG := Lib.hid HG6
          clear hb6 hy his HG6 HFF z0 z1 z2 z3
          go_wp2_with fail
          refine HGG.out.mono ?_
          rintro e w7 ⟨rfl, hb7⟩
          obtain ⟨W8, hW8⟩ : ∃ W8 : World, W8 = w7.alloc (.cells #[.string yk, .string yv, .int .i64 yn] 42) := ⟨_, rfl⟩
          obtain ⟨b8, hb8⟩ : ∃ b8, b8 = w7.heap.size := ⟨_, rfl⟩
          have hbb8 : Below w7.heap.size w7 W8 := by rw [hW8]; exact bl_alloc _ _
          have hbx8 : W8.heap[b8]? = some (.cells #[.string yk, .string yv, .int .i64 yn] 42 (0, 0)) := by rw [hW8, hb8]; exact heap_alloc_new w7 _
          have HW8 : Hid (w7.alloc (.cells #[.string yk, .string yv, .int .i64 yn] 42) = W8 ∧ w7.heap.size = b8) := ⟨hW8.symm, hb8.symm⟩
          have h68 := bl_trans hb7 hbb8
          have HX8 := Lib.hid (HX6.out.below h68)
          have HS8 := Lib.hid (HS6.out.below h68)
          have HB8 := Lib.hid (bl_trans HB6.out h68)
          have HE8 := Lib.hid hbx8
          clear hb7 hW8 hb8 hbb8 hbx8 h68 HGG
          go_upto_region 10 with fail
          rw [HW8.out.1, HW8.out.2]
          have y2 : W8.cell? ⟨b8, 2, none⟩ = some (.int .i64 yn) := by rw [cell_of_row _ _ _ _ _ _ HE8.out]; rfl
          obtain ⟨W9, hW9⟩ : ∃ W9 : World, W9 = W8.alloc (.cells #[.string key, .int .i64 yn] 53) := ⟨_, rfl⟩
          obtain ⟨b9, hb9⟩ : ∃ b9, b9 = W8.heap.size := ⟨_, rfl⟩
          have hbb9 : Below W8.heap.size W8 W9 := by rw [hW9]; exact bl_alloc _ _
          have hbx9 : W9.heap[b9]? = some (.cells #[.string key, .int .i64 yn] 53 (0, 0)) := by rw [hW9, hb9]; exact heap_alloc_new W8 _
          have hX9 := HX8.out.below hbb9
          have hf9 : (W8.alloc (.cells #[.string key, .int .i64 yn] 53)).frozen? ⟨q, 2, none⟩ = false := by rw [← hW9]; exact hX9.fz 2
          have hc9 : (W8.alloc (.cells #[.string key, .int .i64 yn] 53)).cell? ⟨q, 2, none⟩ = some (.slice none 0 0) := by rw [← hW9]; exact hX9.cells.2.2.1
          obtain ⟨W10, hW10⟩ : ∃ W10 : World, W10 = W9.setCell ⟨q, 2, none⟩ (.slice (some ⟨b9, 0, none⟩) 1 1) := ⟨_, rfl⟩
          have hw10 : Wrote [q] W9 W10 := by rw [hW10]; exact Box.wrote _ _ _
          have HW10 : Hid ((W8.alloc (.cells #[.string key, .int .i64 yn] 53)).setCell ⟨q, 2, none⟩ (.slice (some ⟨W8.heap.size, 0, none⟩) 1 1) = W10) := by
            show _ = _
            rw [hW10, hW9, hb9]
          have HX10 : Hid (Box W10 q cl num (some ⟨b9, 0, none⟩) 1 1 wa wn wc) := by show Box _ _ _ _ _ _ _ _ _ _; rw [hW10]; exact hX9.set _ 1 1
          have HB10 : Hid (Below w.heap.size w W10) := below_at (bl_trans HB8.out hbb9) hw10 HQ.out
          have HS10 : Hid (StoreAt W10 p sa sc L) := hX9.store (HS8.out.below hbb9) hw10
          have hqb : b9 ≠ q := by have := HX8.out.lt; omega
          have HE10 : Hid (W10.heap[b8]? = some (.cells #[.string yk, .string yv, .int .i64 yn] 42 (0, 0))) := by
            have hq8 : b8 ≠ q := by
              rintro rfl
              have h1 := HE8.out
              rw [HX8.out.cell] at h1
              cases h1
            have h2 := (hbb9.block _ (lt_of_heap HE8.out)).trans HE8.out
            exact (hw10.block _ (lt_of_heap h2) (by simpa using hq8)).trans h2
          have HT10 : Hid (TxAt W10 ⟨cl, num, [⟨key, yn⟩], t.W⟩ (some ⟨b9, 0, none⟩) wa) := ⟨lies_rdk ((hw10.block _ (lt_of_heap hbx9) (by simpa using hqb)).trans hbx9), HWI.out.w.below HB10.out, by simp, by have := HSM.out.2; show t.W.length ≤ _; omega⟩
          have HK10 := keys_any ⟨cl, num, [⟨key, yn⟩], t.W⟩ (some ⟨b9, 0, none⟩) 1 wa wc W10 HT10.out
          unfold txV KysL at HK10
          simp only [List.length_cons, List.length_nil, Nat.zero_add] at HK10
          rw [← HF.out.2.2.2.1] at HK10
          obtain ⟨kn2, hkn2⟩ : ∃ kn, kn = (keysT ⟨cl, num, [⟨key, yn⟩], t.W⟩).length := ⟨_, rfl⟩
          rw [← hkn2] at HK10
          have HKK2 := Lib.hid HK10
          have HKN2 := Lib.hid hkn2
          have HNQ : Hid (b9 = W8.heap.size) := hb9
          clear hW9 hb9 hbb9 hbx9 hX9 hW10 hw10 hqb HK10 hkn2
          go_upto_region 11 with fail
          rw [HW10.out]
          clear y2 hf9 hc9
          obtain ⟨z0, z1, z2, z3⟩ := HX10.out.cells
          go_wp2_with fail
          refine HKK2.out.mono ?_
          rintro e w11 ⟨ka2, kc2, rfl, hkl, hb11⟩
          have HB11 := Lib.hid (bl_trans HB10.out hb11)
          have HX11 := Lib.hid (HX10.out.below hb11)
          have HS11 := Lib.hid (HS10.out.below hb11)
          have HE11 := Lib.hid ((hb11.block _ (lt_of_heap HE10.out)).trans HE10.out)
          have HL11 := Lib.hid hkl
          have hmem : key ∈ keysT ⟨cl, num, [⟨key, yn⟩], t.W⟩ := keysT_mem.2 (.inl ⟨⟨key, yn⟩, by simp, rfl⟩)
          have HMEM := Lib.hid hmem
          have HFEW : Hid ((keysT ⟨cl, num, [⟨key, yn⟩], t.W⟩).length ≤ 100000) := keys_few (by have := HSM.out.2; show 1 + t.W.length ≤ 100; omega)
          have HF11 := fits_any ⟨cl, num, [⟨key, yn⟩], t.W⟩ (some ⟨b9, 0, none⟩) 1 wa wc p sa sc L ka2 kc2 (keysT ⟨cl, num, [⟨key, yn⟩], t.W⟩) w11 (HT10.out.below hb11) (by simp) HN2.out HS11.out (by have := HSM.out.1; omega) hkl HFEW.out
          unfold txV at HF11
          simp only [List.length_cons, List.length_nil, Nat.zero_add] at HF11
          rw [← HF.out.2.2.2.1, ← HKN2.out, fits_one HSM.out.1 HSM.out.2 hmem, decide_eq_true HY.out] at HF11
          have HFF2 := Lib.hid HF11
          clear hkl hb11 hmem HF11 HKK2 z0 z1 z2 z3
          obtain ⟨z0, z1, z2, z3⟩ := HX11.out.cells
          go_wp2_with fail
          refine HFF2.out.mono ?_
          rintro e w12 ⟨rfl, hb12⟩
          have HB12 := Lib.hid (bl_trans HB11.out hb12)
          have HX12 := Lib.hid (HX11.out.below hb12)
          have HS12 := Lib.hid (HS11.out.below hb12)
          have HL12 := Lib.hid (HL11.out.below hb12)
          have hE12 := (hb12.block _ (lt_of_heap HE11.out)).trans HE11.out
          have y2 : w12.cell? ⟨b8, 2, none⟩ = some (.int .i64 yn) := by rw [cell_of_row _ _ _ _ _ _ hE12]; rfl
          have hwi : (wrong : Int) ≤ 255 := by have := HWR.out; omega
          have hwi0 : (0 : Int) ≤ (wrong : Int) := by omega
          clear hb12 HFF2 hE12 z0 z1 z2 z3
          have i3 : IntKind.i64.wrap (wrong : Int) = (wrong : Int) := IntWalk.i64_in _ (by omega)
          obtain ⟨v1, i1⟩ : ∃ v1, IntKind.i64.wrap (yn + 1) = v1 := ⟨_, rfl⟩
          obtain ⟨v2, i2⟩ : ∃ v2, IntKind.i64.wrap (v1 + (wrong : Int)) = v2 := ⟨_, rfl⟩
          have HNE : Hid (¬ oldV L key = v2) := by
            show ¬ _
            rw [HY.out, ← i2, ← i1]
            exact fit_wrong yn wrong HWR.out
          obtain ⟨W13, hW13⟩ : ∃ W13 : World, W13 = w12.alloc (.cells #[.string key, .int .i64 v2] 53) := ⟨_, rfl⟩
          obtain ⟨b13, hb13⟩ : ∃ b13, b13 = w12.heap.size := ⟨_, rfl⟩
          have hbb13 : Below w12.heap.size w12 W13 := by rw [hW13]; exact bl_alloc _ _
          have hbx13 : W13.heap[b13]? = some (.cells #[.string key, .int .i64 v2] 53 (0, 0)) := by rw [hW13, hb13]; exact heap_alloc_new w12 _
          have hX13 := HX12.out.below hbb13
          have hf13 : (w12.alloc (.cells #[.string key, .int .i64 v2] 53)).frozen? ⟨q, 2, none⟩ = false := by rw [← hW13]; exact hX13.fz 2
          have hc13 : (w12.alloc (.cells #[.string key, .int .i64 v2] 53)).cell? ⟨q, 2, none⟩ = some (.slice (some ⟨b9, 0, none⟩) 1 1) := by rw [← hW13]; exact hX13.cells.2.2.1
          obtain ⟨W14, hW14⟩ : ∃ W14 : World, W14 = W13.setCell ⟨q, 2, none⟩ (.slice (some ⟨b13, 0, none⟩) 1 1) := ⟨_, rfl⟩
          have hw14 : Wrote [q] W13 W14 := by rw [hW14]; exact Box.wrote _ _ _
          have HW14 : Hid ((w12.alloc (.cells #[.string key, .int .i64 v2] 53)).setCell ⟨q, 2, none⟩ (.slice (some ⟨w12.heap.size, 0, none⟩) 1 1) = W14) := by
            show _ = _
            rw [hW14, hW13, hb13]
          have HX14 : Hid (Box W14 q cl num (some ⟨b13, 0, none⟩) 1 1 wa wn wc) := by show Box _ _ _ _ _ _ _ _ _ _; rw [hW14]; exact hX13.set _ 1 1
          have HB14 : Hid (Below w.heap.size w W14) := below_at (bl_trans HB12.out hbb13) hw14 HQ.out
          have HS14 : Hid (StoreAt W14 p sa sc L) := hX13.store (HS12.out.below hbb13) hw14
          have hqb : b13 ≠ q := by have := HX12.out.lt; omega
          have HT14 : Hid (TxAt W14 ⟨cl, num, [⟨key, v2⟩], t.W⟩ (some ⟨b13, 0, none⟩) wa) := ⟨lies_rdk ((hw14.block _ (lt_of_heap hbx13) (by simpa using hqb)).trans hbx13), HWI.out.w.below HB14.out, by simp, by have := HSM.out.2; show t.W.length ≤ _; omega⟩
          have HF14 := fits_any ⟨cl, num, [⟨key, v2⟩], t.W⟩ (some ⟨b13, 0, none⟩) 1 wa wc p sa sc L ka2 kc2 (keysT ⟨cl, num, [⟨key, yn⟩], t.W⟩) W14 HT14.out (by simp) HN2.out HS14.out (by have := HSM.out.1; omega) (hX13.lies (HL12.out.below hbb13) hw14) HFEW.out
          unfold txV at HF14
          simp only [List.length_cons, List.length_nil, Nat.zero_add] at HF14
          rw [← HF.out.2.2.2.1, ← HKN2.out, fits_one HSM.out.1 HSM.out.2 HMEM.out, decide_eq_false HNE.out] at HF14
          have HFF3 := Lib.hid HF14
          clear hW13 hb13 hbb13 hbx13 hX13 hW14 hw14 hqb HF14
          go_upto_region 14 with fail
          rw [HW14.out]
          clear y2 hf13 hc13 i1 i2 i3
          obtain ⟨z0, z1, z2, z3⟩ := HX14.out.cells
          go_wp2_with fail
          refine HFF3.out.mono ?_
          rintro e w15 ⟨rfl, hb15⟩
          have HB15 := Lib.hid (bl_trans HB14.out hb15)
          have HX15 := Lib.hid (HX14.out.below hb15)
          have HF15 := fits_any ⟨cl, num, [⟨key, v2⟩], t.W⟩ (some ⟨b13, 0, none⟩) 1 wa wc p sa sc L none 0 [] w15 (HT14.out.below hb15) (by simp) HN2.out (HS14.out.below hb15) (by have := HSM.out.1; omega) (LiesAt.nil _ _ _ _) (by simp)
          unfold txV at HF15
          simp only [List.length_cons, List.length_nil, Nat.zero_add] at HF15
          rw [← HF.out.2.2.2.1, fits_out HSM.out.1] at HF15
          have HFF4 := Lib.hid HF15
          clear hb15 HF15 HFF3 z0 z1 z2 z3
          obtain ⟨z0, z1, z2, z3⟩ := HX15.out.cells
          go_wp2_with fail
          refine HFF4.out.mono ?_
          rintro e w16 ⟨rfl, hb16⟩
          have HB16 := Lib.hid (bl_trans HB15.out hb16)
          clear hb16 HFF4 z0 z1 z2 z3
          go_wp2_with fail
          go_ret
          exact ⟨rfl, HB16.out⟩
end Go.Proofs.YtaifmfnmgnmgbaaGreatDoor.Txn
