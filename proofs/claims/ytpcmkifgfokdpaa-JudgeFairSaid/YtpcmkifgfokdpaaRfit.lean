/- The model: the document's Fits. -/
import Derived.Test.YtpcmkifgfokdpaaRrun
import Derived.Test.YtpcmkifgfokdpaaRat
namespace Go.Proofs.Ytpcmkifgfokdpaa
open Go.RowKit Go.My Go.My.Model Go.Deep
def verK (k : ByteArray) (L : List Ent) : Int := L.foldl (fun a e => if e.key = k then e.ver else a) 0
theorem verK_succ {k : ByteArray} {L : List Ent} {j : Nat} {e : Ent} (h : L[j]? = some e) : verK k (L.take (j + 1)) = if e.key = k then e.ver else verK k (L.take j) := by
  unfold verK
  rw [List.take_add_one, h]
  simp
theorem verK_run (ds : List Wri) (k : ByteArray) : verK k (runL (stateOf ds)) = ver (stateOf ds) k := by
  rw [ver_state]
  have h1 : ∀ (L : List Ent) (a : Int), (∀ e ∈ L, e.key = k → e.ver = (countK ds k : Int)) → (a = (countK ds k : Int) ∨ ∃ e ∈ L, e.key = k) → L.foldl (fun a e => if e.key = k then e.ver else a) a = (countK ds k : Int) := by
    intro L
    induction L with
    | nil => intro a _ h; rcases h with h | ⟨e, h, _⟩; exact h; cases h
    | cons e L ih =>
      intro a h h2
      rw [List.foldl_cons]
      by_cases hk : e.key = k
      · rw [if_pos hk]
        exact ih _ (fun e he => h e (by simp [he])) (.inl (h e (by simp) hk))
      · rw [if_neg hk]
        refine ih _ (fun e he => h e (by simp [he])) ?_
        rcases h2 with h2 | ⟨e', h2, h3⟩
        · exact .inl h2
        · rcases List.mem_cons.1 h2 with rfl | h2
          · exact absurd h3 hk
          · exact .inr ⟨e', h2, h3⟩
  refine h1 _ 0 (fun e he hk => ?_) ?_
  · obtain ⟨_, h2⟩ := run_mem.1 he
    rw [h2, hk]
    rfl
  · by_cases h0 : countK ds k = 0
    · left
      rw [h0]
      rfl
    · exact .inr ⟨entOf ds k, run_mem.2 ⟨h0, rfl⟩, rfl⟩
theorem flat_whole (T : List Tx) (i : Nat) : flat (T.take i) (T.take i).length = flat T i := by
  unfold flat
  rw [List.take_of_length_le (Nat.le_refl _)]
theorem readsB_succ {m : St} {rs : List (ByteArray × Int)} {j : Nat} {r : ByteArray × Int} (h : rs[j]? = some r) : readsB m (rs.take (j + 1)) = (readsB m (rs.take j) && decide (ver m r.1 = r.2)) := by
  unfold readsB
  rw [List.take_add_one, h]
  simp
theorem readsB_no {m : St} {rs : List (ByteArray × Int)} {r : ByteArray × Int} {j : Nat} (h : rs[j]? = some r) (h2 : ver m r.1 ≠ r.2) : readsB m rs = false := by
  cases hh : readsB m rs with
  | false => rfl
  | true =>
    unfold readsB at hh
    rw [List.all_eq_true] at hh
    have := hh r (List.mem_of_getElem? h)
    simp at this
    exact absurd this h2
set_option maxRecDepth 100000 in
set_option maxHeartbeats 3200000 in
theorem ref_fits (a : Option Addr) (cap : Nat) (T : List Tx) (w : World) (ho : OrdFar [] w a T) (hl : T.length ≤ 2000) (hc : T.length ≤ cap) (ht : (flat T T.length).length ≤ 5000) (hrl : ∀ t ∈ T, t.reads.length ≤ 5000) :
    Calls Try.prog 9 #[.slice a T.length cap] w (FitsLeft w T) := by
  have HO := Lib.hid ho
  have HRL := Lib.hid hrl
  have HRUN : Hid (∀ W i, i ≤ T.length → Below w.heap.size w W → Calls Try.prog 23 #[.slice a i cap] W (RunDone W (stateOf (flat T i)))) := fun W i hi hb => by
    have hlen : (T.take i).length = i := by rw [List.length_take]; omega
    have h := ref_run a cap (T.take i) W (far_below (ho.take i) hb (by simp)) (by rw [hlen]; omega) (by rw [flat_whole]; exact Nat.le_trans (flat_le T i) ht)
    rw [flat_whole, hlen] at h
    exact h
  have HFL : Hid (∀ i, (flat T i).length ≤ 5000) := fun i => Nat.le_trans (flat_le T i) ht
  obtain ⟨n, hn⟩ : ∃ n, n = T.length := ⟨_, rfl⟩
  have HN := Lib.hid hn
  have hn9 : (n : Int) ≤ 2000 := by omega
  have hcap : (n : Int) ≤ (cap : Int) := by omega
  rw [← hn] at HRUN ⊢
  have P0 : Hid (Below w.heap.size w w ∧ ∀ j, j < 0 → okB T j = true) := ⟨Below.refl _ _, fun j h => by omega⟩
  clear ho ht hn hl hc hrl
  go_enter Try.func9, Try.ntmps9
  go_wp2_with fail
  go_loopw [3] (fun i wr => ∃ j : Nat, j ≤ n ∧ i = .int .i64 j ∧ Hid (Below w.heap.size w wr ∧ ∀ i, i < j → okB T i = true)) (fun i _ => n - (intOf i).toNat)
  case atStart => exact ⟨0, by omega, rfl, P0⟩
  case round =>
    clear P0
    obtain ⟨j, hj, rfl, HP⟩ := hrel
    by_cases hlt : j < n
    · obtain ⟨t, ht⟩ : ∃ t, T[j]? = some t := ⟨_, List.getElem?_eq_getElem (by rw [← HN.out]; exact hlt)⟩
      obtain ⟨g, o, rfl, hx⟩ := HO.out j t ht
      obtain ⟨wa, wc, x2, hrd⟩ := hx.c2
      have HG := Lib.hid hx.lt
      have HX2 := Lib.hid x2
      have HRD := Lib.hid hrd
      have HOK : Hid (okB T j = readsB (stateOf (flat T j)) t.reads) := okB_eq ht
      have hfew := HRL.out t (List.mem_of_getElem? ht)
      obtain ⟨k, hk⟩ : ∃ k, k = t.reads.length := ⟨_, rfl⟩
      have HK := Lib.hid hk
      have hk1 : (k : Int) ≤ 5000 := by omega
      have hj0 : (0 : Int) ≤ (j : Int) := by omega
      have hj1 : (j : Int) < (n : Int) := by omega
      have hj2 : (j : Int) ≤ (cap : Int) := by omega
      have HC := Lib.hid (HRUN.out wr j hj HP.out.1)
      have hds := HFL.out j
      have HVR := Lib.hid (verK_run (flat T j))
      generalize flat T j = ds at HC hds HOK HVR
      have hrf := run_few ds
      clear hx x2 hrd hfew hk ht
      go_wp2_with fail
      refine HC.out.mono ?_
      rintro e w1 hdone
      obtain ⟨ra, rc, rfl, hleft⟩ := left_open hdone
      have HB1 : Hid (Below w.heap.size w w1) := HP.out.1.trans (hleft.below.mono HP.out.1.size)
      have HROW : Hid (RowsIn w1 ra (runL (stateOf ds))) := hleft.rows (Below.refl _ _)
      obtain ⟨L, hL⟩ : ∃ L, L = runL (stateOf ds) := ⟨_, rfl⟩
      rw [← hL] at HROW HVR hrf ⊢
      obtain ⟨q, hq⟩ : ∃ q, q = L.length := ⟨_, rfl⟩
      have HQ := Lib.hid hq
      have hq1 : (q : Int) ≤ 5000 := by omega
      rw [← hq]
      obtain ⟨m0, hm0⟩ : ∃ m0, m0 = stateOf ds := ⟨_, rfl⟩
      rw [← hm0] at HVR HOK
      have P1 : Hid (Below w1.heap.size w1 w1 ∧ readsB m0 (t.reads.take 0) = true) := ⟨Below.refl _ _, rfl⟩
      clear hdone hleft hL hq hrf hm0 hds HC
      go_wp2_with fail
      go_loopw [5] (fun i W => ∃ m : Nat, m ≤ k ∧ i = .int .i64 m ∧ Hid (Below w1.heap.size w1 W ∧ readsB m0 (t.reads.take m) = true)) (fun i _ => k - (intOf i).toNat)
      case atStart => exact ⟨0, by omega, rfl, P1⟩
      case round =>
        clear P1
        obtain ⟨m, hm, rfl, HV⟩ := hrel
        have HBW : Hid (Below w.heap.size w wr) := HB1.out.trans (HV.out.1.mono HB1.out.size)
        have c2 := (HBW.out.cell (p := ⟨g, o + j * 4 + 2, none⟩) HG.out).trans HX2.out
        rw [← HK.out] at c2
        have hg2 : g < wr.heap.size := Nat.lt_of_lt_of_le HG.out HBW.out.size
        by_cases hlm : m < k
        · obtain ⟨r, hr⟩ : ∃ r, t.reads[m]? = some r := ⟨_, List.getElem?_eq_getElem (by rw [← HK.out]; exact hlm)⟩
          obtain ⟨g', o', rfl, hg', _, y0, y1⟩ := HRD.out m r hr
          have d0 := (HBW.out.cell (p := ⟨g', o' + m * 2, none⟩) hg').trans y0
          have d1 := (HBW.out.cell (p := ⟨g', o' + m * 2 + 1, none⟩) hg').trans y1
          have hg3 : g' < wr.heap.size := Nat.lt_of_lt_of_le hg' HBW.out.size
          have hm0 : (0 : Int) ≤ (m : Int) := by omega
          have hm1 : (m : Int) < (k : Int) := by omega
          have HRR := Lib.hid hr
          have HRW : Hid (RowsIn wr ra L) := HROW.out.below HV.out.1
          obtain ⟨rk, rv⟩ := r
          simp only at d0 d1
          obtain ⟨W2, hW2⟩ : ∃ W2, W2 = wr.alloc (.cells #[.string rk, .int .i64 rv] 73) := ⟨_, rfl⟩
          have HB2 : Hid (Below wr.heap.size wr W2) := by show Below _ _ _; rw [hW2]; exact (Below.refl _ wr).alloc (Nat.le_refl _) _
          have HR2 : Hid (W2.heap[wr.heap.size]? = some (.cells #[.string rk, .int .i64 rv] 73 (0, 0))) := by show _ = _; rw [hW2]; exact heap_alloc_new wr _
          have P2 : Hid (Below W2.heap.size W2 W2) := Below.refl _ _
          have HBL : Hid (∀ W, Below W2.heap.size W2 W → Below w1.heap.size w1 W) := fun W hb => HV.out.1.trans ((HB2.out.trans (hb.mono HB2.out.size)).mono HV.out.1.size)
          have HVS := Lib.hid HV.out.2
          clear y0 y1 hr
          go_wp2_with fail
          obtain ⟨cb, hcb⟩ : ∃ cb, cb = wr.heap.size := ⟨_, rfl⟩
          rw [← hW2, ← hcb]
          rw [← hcb] at HR2
          clear hW2 hcb HB2 HRW HBW HV c2 d0 d1 hg2 hg3
          go_loopw [7, 8] (fun v i W => ∃ p : Nat, p ≤ q ∧ i = .int .i64 p ∧ v = .int .i64 (verK rk (L.take p)) ∧ Hid (Below W2.heap.size W2 W)) (fun _ i _ => q - (intOf i).toNat)
          case atStart => exact ⟨0, by omega, rfl, rfl, P2⟩
          case round =>
            clear P2
            obtain ⟨p, hp, rfl, rfl, HZ⟩ := hrel
            have HB9 : Hid (Below w1.heap.size w1 wr) := HBL.out _ HZ.out
            have hrb := (HZ.out.block _ (lt_of_heap HR2.out)).trans HR2.out
            have r0 : wr.cell? ⟨cb, 0, none⟩ = some (.string rk) := by rw [cell_of_row _ _ _ _ _ _ hrb]; rfl
            have r1 : wr.cell? ⟨cb, 1, none⟩ = some (.int .i64 rv) := by rw [cell_of_row _ _ _ _ _ _ hrb]; rfl
            have hcl := lt_of_heap hrb
            clear hrb
            by_cases hlp : p < q
            · obtain ⟨e, he⟩ : ∃ e, L[p]? = some e := ⟨_, List.getElem?_eq_getElem (by rw [← HQ.out]; exact hlp)⟩
              obtain ⟨g2, rfl, hg4, f0, f1, f2⟩ := HROW.out.below HB9.out p e he
              have hs := verK_succ (k := rk) he
              have hp0 : (0 : Int) ≤ (p : Int) := by omega
              have hp1 : (p : Int) < (q : Int) := by omega
              have HND : Hid (∀ nq, Below W2.heap.size W2 (wr.drewN nq)) := fun nq => HZ.out.trans ⟨rfl, rfl, rfl, by simp, fun _ _ => rfl⟩
              clear he
              by_cases hk : e.key = rk
              · have hE : (e.key.toList == rk.toList) = true := by rw [hk]; simp
                rw [if_pos hk] at hs
                have HSS := Lib.hid hs
                clear hk hs
                go_wp2_with fail
                go_quiet (fail)
                go_wp2_with fail
                exact ⟨⟨p + 1, by omega, by simp, by rw [HSS.out], HND.out _⟩, by simp [intOf]; omega⟩
              · have hE : (e.key.toList == rk.toList) = false := key_no hk
                rw [if_neg hk] at hs
                have HSS := Lib.hid hs
                clear hk hs
                go_wp2_with fail
                go_quiet (fail)
                go_wp2_with fail
                exact ⟨⟨p + 1, by omega, by simp, by rw [HSS.out], HND.out _⟩, by simp [intOf]; omega⟩
            · obtain rfl : p = q := by omega
              have hvv : verK rk (L.take p) = ver m0 rk := by rw [List.take_of_length_le (by rw [HQ.out]; exact Nat.le_refl _)]; exact HVR.out rk
              rw [hvv]
              by_cases hv : ver m0 rk = rv
              · have hd : (ver m0 rk != rv) = false := by simpa using hv
                have HVN : Hid (readsB m0 (t.reads.take (m + 1)) = true) := by
                  show _ = _
                  rw [readsB_succ HRR.out, HVS.out]
                  simpa using hv
                clear hv hvv
                go_wp2_with fail
                exact ⟨⟨m + 1, by omega, by simp, HB9.out, HVN.out⟩, by simp [intOf]; omega⟩
              · have hd : (ver m0 rk != rv) = true := by simpa using hv
                have HNO : Hid (okB T j = false) := by
                  show _ = _
                  rw [HOK.out]
                  exact readsB_no HRR.out hv
                clear hv hvv
                go_wp2_with fail
                go_ret
                exact ⟨by rw [fits_stop (by rw [← HN.out]; exact hlt) HP.out.2 HNO.out]; rfl, HB1.out.trans (HB9.out.mono HB1.out.size)⟩
        · obtain rfl : m = k := by omega
          have HN2 : Hid (Below w.heap.size w wr ∧ ∀ (i : Nat), i < j + 1 → okB T i = true) := by
            refine ⟨HBW.out, fun i hi => ?_⟩
            by_cases hij : i = j
            · rw [hij, HOK.out]
              have h := HV.out.2
              rw [List.take_of_length_le (by rw [HK.out]; exact Nat.le_refl _)] at h
              exact h
            · exact HP.out.2 i (by omega)
          go_wp2_with fail
          exact ⟨⟨j + 1, by omega, by simp, HN2⟩, by simp [intOf]; omega⟩
    · obtain rfl : j = n := by omega
      go_wp2_with fail
      go_ret
      refine ⟨?_, HP.out.1⟩
      rw [fits_all fun i hi => HP.out.2 i (by rw [HN.out]; exact hi), ← HN.out]
      rfl
end Go.Proofs.Ytpcmkifgfokdpaa
