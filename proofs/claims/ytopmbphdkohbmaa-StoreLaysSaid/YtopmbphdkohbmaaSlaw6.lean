/- A store: what is laid in is there. -/
import Derived.Test.YtopmbphdkohbmaaSlaw4
namespace Go.Proofs.Ytopmbphdkohbmaa
open Go.RowKit Go.My
def cntN (F M : List Ent) (t : Nat) : Nat := ((F.take t).filter fun e => !hasK M e.key).length
theorem cntN_succ {F M : List Ent} {t : Nat} {e : Ent} (h : F[t]? = some e) : cntN F M (t + 1) = if hasK M e.key = true then cntN F M t else cntN F M t + 1 := by
  unfold cntN
  rw [List.take_add_one, h]
  cases hi : hasK M e.key <;> simp [hi]
theorem cntN_le (F M : List Ent) (t : Nat) : cntN F M t ≤ t := Nat.le_trans (List.length_filter_le _ _) (by rw [List.length_take]; omega)
theorem join_got {F M : List Ent} (hf : Up F) (hm : Up M) {e : Ent} (he : e ∈ M) : getE (joinE F M) e.key = some e := by
  have h : hasK M e.key = true := List.any_eq_true.2 ⟨e, he, by simp⟩
  rw [join_get F M hf hm, if_pos h, get_mem hm he]
theorem join_kept {F M : List Ent} (hf : Up F) (hm : Up M) {e : Ent} (he : e ∈ F) (hn : hasK M e.key = false) : getE (joinE F M) e.key = some e := by
  rw [join_get F M hf hm, hn, if_neg (by simp), get_mem hf he]
set_option maxRecDepth 100000 in
set_option maxHeartbeats 3200000 in
theorem lays_any (a b : Option Addr) (n cap m cb : Nat) (F M : List Ent) (more : Int) (w : World) (ha : AskS w a n cap F) (hb : AskS w b m cb M) (hgb : Good M) (hmo : 0 ≤ more ∧ more ≤ 255) :
    Calls Try.prog 6 #[.slice a n cap, .slice b m cb, .int .u8 more] w fun e w' => e = .returned (.bool true) ∧ Below w.heap.size w w' := by
  have HA := Lib.hid ha
  have HBM := Lib.hid hb
  have HGB := Lib.hid hgb
  obtain ⟨hmo0, hmo1⟩ := hmo
  have HH := Lib.hid (head_8 w)
  clear ha hb hgb
  go_enter Try.func6, Try.ntmps6
  go_wp2_with fail
  refine HH.out.mono ?_
  rintro e w1 ⟨rfl, hb1⟩
  have HB1 := Lib.hid hb1
  have HO := Lib.hid (HA.out.of9 w1 hb1)
  clear hb1
  go_wp2_with fail
  refine HO.out.mono ?_
  rintro e w2 ⟨hb2, hof⟩
  have HB2 := Lib.hid (HB1.out.trans (hb2.mono HB1.out.size))
  rcases hof with ⟨rfl, _⟩ | ⟨p, a', cap', rfl, hok, hp, hcell, hsrc⟩
  · clear hb2
    go_wp2_with fail
    go_ret
    exact ⟨rfl, HB2.out⟩
  · have HP : Hid (w.heap.size ≤ p) := Nat.le_trans HB1.out.size hp
    have HOK := Lib.hid hok
    have HS : Hid (StoreAt w2 p a' cap' F) := ⟨hcell, hsrc, hok.up⟩
    have HFW : Hid (F.length ≤ 128) := hok.few
    have HG := Lib.hid (HA.out.gr10 w2)
    have hgr := few_great hok.few
    rw [← HA.out.len] at hgr
    rw [hgr] at HG
    have HGM := Lib.hid (HBM.out.gr10 w2)
    clear hb2 hok hp hcell hsrc hgr
    have HLAY : Hid (Calls Try.prog 16 #[.pointer (some ⟨p, 0, none⟩), .slice b m cb] w2 (LayLeft w2 p F M)) := by
      have h := lay_16 p a' b cap' cb F M w2 HS.out (by have := HFW.out; omega) (HBM.out.src.below HB2.out) HGB.out.1 HGB.out.2
      rw [← HBM.out.len] at h
      exact h
    go_wp2_with fail
    refine HG.out.mono ?_
    rintro e w' ⟨rfl, hw⟩
    obtain rfl : w2 = w' := hw.symm
    go_wp2_with fail
    refine HGM.out.mono ?_
    rintro e w' ⟨rfl, hw⟩
    obtain rfl : w2 = w' := hw.symm
    by_cases hbig : 400 < m
    · have hd : decide (400 < m) = true := decide_eq_true hbig
      go_wp2_with fail
      go_ret
      exact ⟨rfl, HB2.out⟩
    have hd : decide (400 < m) = false := decide_eq_false hbig
    have hbig2 : m ≤ 400 := by omega
    go_wp2_with fail
    refine HLAY.out.mono ?_
    rintro e w3 ⟨hwr, hlay⟩
    have HB3 : Hid (Below w.heap.size w w3) := HB2.out.trans (hwr.below HB2.out.size fun g hg => (by simpa using hg : g = p) ▸ HP.out)
    have hrest : (∃ z, e = .returned (.iface 74 z) ∧ ∃ a cap, StoreAt w3 p a cap F) ∨ (OfOK M ∧ (joinE F M).length ≤ 128 ∧ e = .returned .nilIface ∧ ∃ a cap, StoreAt w3 p a cap (joinE F M)) := by
      rcases hlay with ⟨_, h1, h2⟩ | ⟨_, _, h1, h2⟩ | ⟨h0, h01, h1, a2, c2, h2, h3⟩
      · exact .inl ⟨_, h1, h2⟩
      · exact .inl ⟨_, h1, h2⟩
      · exact .inr ⟨h0, h01, h1, a2, c2, h2, h3, (ok_join HOK.out h0 h01).up⟩
    clear hwr hlay
    rcases hrest with ⟨z, rfl, a3, c3, hs3⟩ | ⟨hom, h128, rfl, a3, c3, hs3⟩
    · have HR3 : Hid (Calls Try.prog 12 #[.pointer (some ⟨p, 0, none⟩), .string ⟨#[]⟩, .string ⟨#[]⟩] w3 (JoinLeft w3 F)) := by
        have h := range_12 p a3 c3 F ⟨#[]⟩ ⟨#[]⟩ w3 hs3 (by have := HFW.out; omega)
        rw [all_all] at h
        exact h
      clear hs3
      go_wp2_with fail
      refine HR3.out.mono ?_
      rintro e w4 ⟨u, rfl, hrow, hb4⟩
      obtain ⟨ta, tc, rfl, _⟩ := row_form hrow
      have HB4 : Hid (Below w.heap.size w w4 ∧ SrcAny w4 ta tc F) := ⟨HB3.out.trans (hb4.mono HB3.out.size), (row_src hrow rfl).any⟩
      have HSA : Hid (Calls Try.prog 14 #[.slice ta n tc, .slice a n cap] w4 fun e w' => e = .returned (.bool true) ∧ Below w4.heap.size w4 w') := by
        have h := same_yes ta a tc cap F w4 HB4.out.2 (HA.out.src.below HB4.out.1) (by have := HFW.out; omega)
        rw [← HA.out.len] at h
        exact h
      rw [← HA.out.len]
      clear hrow hb4
      go_wp2_with fail
      refine HSA.out.mono ?_
      rintro e w9 ⟨rfl, hb9⟩
      have HE9 := Lib.hid (HB4.out.1.trans (hb9.mono HB4.out.1.size))
      clear hb9
      go_wp2_with fail
      go_ret
      exact ⟨rfl, HE9.out⟩
    · have HOM := Lib.hid hom
      obtain ⟨J, hJ⟩ : ∃ J, J = joinE F M := ⟨_, rfl⟩
      rw [← hJ] at h128 hs3
      have HCNT : Hid (J.length = m + cntN F M n) := by
        show _ = _
        rw [hJ, join_count F M HOK.out.up hom.up, HBM.out.len, HA.out.len]
        unfold cntN
        rw [List.take_length]
      have HJM : Hid (∀ e ∈ M, getE J e.key = some e) := by
        show ∀ e ∈ M, _
        rw [hJ]
        exact fun e he => join_got HOK.out.up hom.up he
      have HJF : Hid (∀ e ∈ F, hasK M e.key = false → getE J e.key = some e) := by
        show ∀ e ∈ F, _
        rw [hJ]
        exact fun e he hn => join_kept HOK.out.up hom.up he hn
      have HS3 := Lib.hid hs3
      have H128 := Lib.hid h128
      have HR3 : Hid (Calls Try.prog 12 #[.pointer (some ⟨p, 0, none⟩), .string ⟨#[]⟩, .string ⟨#[]⟩] w3 (JoinLeft w3 J)) := by
        have h := range_12 p a3 c3 J ⟨#[]⟩ ⟨#[]⟩ w3 hs3 (by omega)
        rw [all_all] at h
        exact h
      clear hs3 h128 hJ hom
      go_wp2_with fail
      refine HR3.out.mono ?_
      rintro e w4 ⟨u, rfl, hrow, hb4⟩
      obtain ⟨ta, tc, rfl, _⟩ := row_form hrow
      have HB4 : Hid (Below w.heap.size w w4 ∧ StoreAt w4 p a3 c3 J) := ⟨HB3.out.trans (hb4.mono HB3.out.size), HS3.out.below hb4⟩
      obtain ⟨j0, hj0⟩ : ∃ j, j = J.length := ⟨_, rfl⟩
      have HJL := Lib.hid hj0
      have hj9 : j0 ≤ 128 := by rw [hj0]; exact H128.out
      rw [← hj0]
      have hjm : j0 = m + cntN F M n := by rw [hj0]; exact HCNT.out
      have HJMN := Lib.hid hjm
      have hm9 : (m : Int) ≤ 400 := by omega
      have hn9 : n ≤ 128 := by rw [HA.out.len]; exact HFW.out
      have HGE : Hid (∀ W, Below w4.heap.size w4 W → ∀ k : ByteArray, Calls Try.prog 11 #[.pointer (some ⟨p, 0, none⟩), .string k] W (GetLeft W J k)) := fun W hW k => get_11 p a3 c3 J k W (HB4.out.2.below hW) (by have := H128.out; omega)
      have P0 : Hid (Below w4.heap.size w4 w4) := Below.refl _ _
      clear hrow hb4 hj0 hjm
      go_wp2_with fail
      go_loopw [10] (fun x wr => ∃ t : Nat, x = .int .i64 t ∧ t ≤ m ∧ Hid (Below w4.heap.size w4 wr)) (fun x _ => m - (intOf x).toNat)
      case atStart => exact ⟨0, rfl, by omega, P0⟩
      case round =>
        clear P0
        obtain ⟨t, rfl, ht, HL⟩ := hrel
        by_cases hlt : t < m
        · obtain ⟨e, he⟩ : ∃ e, M[t]? = some e := ⟨_, List.getElem?_eq_getElem (by rw [← HBM.out.len]; exact hlt)⟩
          have HBW : Hid (Below w.heap.size w wr) := HB4.out.1.trans (HL.out.mono HB4.out.1.size)
          obtain ⟨g, o, rfl, hg, hc⟩ := (HBM.out.src.below HBW.out).lies t e he
          have HC := Lib.hid hc
          have d0 : wr.cell? ⟨g, o + t * 3, none⟩ = some (.string e.key) := hc 0 _ rfl
          have ht0 : (0 : Int) ≤ (t : Int) := by omega
          have ht1 : (t : Int) < (m : Int) := by omega
          have HGK : Hid (Calls Try.prog 11 #[.pointer (some ⟨p, 0, none⟩), .string e.key] wr fun r w' => r = .returned (.tuple #[.agg #[.string e.key, .string e.value, .int .i64 e.ver], .bool true]) ∧ Below wr.heap.size wr w') := by
            have h := HGE.out wr HL.out e.key
            unfold GetLeft at h
            rw [HJM.out e (List.mem_of_getElem? he)] at h
            exact h
          have HGL := Lib.hid hg
          clear he hc
          go_wp2_with fail
          refine HGK.out.mono ?_
          rintro r w5 ⟨rfl, hb5⟩
          obtain ⟨W6, hW6⟩ : ∃ W6, W6 = w5.alloc (.cells #[.string e.key, .string e.value, .int .i64 e.ver] 28) := ⟨_, rfl⟩
          obtain ⟨xb, hxb⟩ : ∃ z, z = w5.heap.size := ⟨_, rfl⟩
          have HB6 : Hid (Below wr.heap.size wr W6 ∧ BoxE W6 xb e) := by show _ ∧ _; rw [hW6, hxb]; exact ⟨hb5.alloc hb5.size _, heap_alloc_new w5 _⟩
          obtain ⟨x0, x1, x2, xl⟩ := HB6.out.2.cells
          have c0 : W6.cell? ⟨g, o + t * 3, none⟩ = some (.string e.key) := (HB6.out.1.cell (p := ⟨g, _, none⟩) HGL.out).trans (HC.out 0 _ rfl)
          have c1 : W6.cell? ⟨g, o + t * 3 + 1, none⟩ = some (.string e.value) := (HB6.out.1.cell (p := ⟨g, _, none⟩) HGL.out).trans (HC.out 1 _ rfl)
          have c2 : W6.cell? ⟨g, o + t * 3 + 2, none⟩ = some (.int .i64 e.ver) := (HB6.out.1.cell (p := ⟨g, _, none⟩) HGL.out).trans (HC.out 2 _ rfl)
          have HND : Hid (∀ nq, Below w4.heap.size w4 (W6.drewN nq)) := fun nq => (HL.out.trans (HB6.out.1.mono HL.out.size)).trans ⟨rfl, rfl, rfl, by simp, fun _ _ => rfl⟩
          clear hb5 d0 hg
          go_wp2_with fail
          rw [← hW6, ← hxb]
          clear hW6 hxb
          go_quiet (fail)
          go_wp2_with fail
          exact ⟨⟨t + 1, by simp, by omega, HND.out _⟩, by simp [intOf]; omega⟩
        · obtain rfl : t = m := by omega
          have P1 : Hid (Below w4.heap.size w4 wr ∧ t = t + cntN F M 0) := ⟨HL.out, by simp [cntN]⟩
          go_wp2_with fail
          go_loopw [13, 14] (fun x y wr => ∃ q s : Nat, x = .int .i64 q ∧ y = .int .i64 s ∧ s ≤ n ∧ q ≤ t + s ∧ Hid (Below w4.heap.size w4 wr ∧ q = t + cntN F M s)) (fun _ y _ => n - (intOf y).toNat)
          case atStart => exact ⟨t, 0, rfl, rfl, by omega, by omega, P1⟩
          case round =>
            clear P1
            obtain ⟨q, s, rfl, rfl, hs, hqs, HL2⟩ := hrel
            by_cases hlt : s < n
            · obtain ⟨e, he⟩ : ∃ e, F[s]? = some e := ⟨_, List.getElem?_eq_getElem (by rw [← HA.out.len]; exact hlt)⟩
              have HEM := Lib.hid he
              have HNS := Lib.hid (cntN_succ (M := M) he)
              have HAB : Hid (∀ W, Below w4.heap.size w4 W → ∃ g o, a = some ⟨g, o, none⟩ ∧ W.cell? ⟨g, o + s * 3, none⟩ = some (.string e.key) ∧ W.cell? ⟨g, o + s * 3 + 1, none⟩ = some (.string e.value) ∧ W.cell? ⟨g, o + s * 3 + 2, none⟩ = some (.int .i64 e.ver)) := fun W hW => by
                obtain ⟨g, o, h1, h2, h3⟩ := (HA.out.src.below (HB4.out.1.trans (hW.mono HB4.out.1.size))).lies s e HEM.out
                exact ⟨g, o, h1, h3 0 _ rfl, h3 1 _ rfl, h3 2 _ rfl⟩
              have P2 : Hid (Below w4.heap.size w4 wr ∧ false = hasK (M.take 0) e.key) := ⟨HL2.out.1, rfl⟩
              have hs0 : (0 : Int) ≤ (s : Int) := by omega
              have hs1 : (s : Int) < (n : Int) := by omega
              clear he
              go_wp2_with fail
              go_loopw [15, 16] (fun x y wr => ∃ (bb : Bool) (k : Nat), x = .bool bb ∧ y = .int .i64 k ∧ k ≤ t ∧ Hid (Below w4.heap.size w4 wr ∧ bb = hasK (M.take k) e.key)) (fun _ y _ => t - (intOf y).toNat)
              case atStart => exact ⟨false, 0, rfl, rfl, by omega, P2⟩
              case round =>
                clear P2
                obtain ⟨bb, k, rfl, rfl, hk, HL3⟩ := hrel
                by_cases hlt3 : k < t
                · obtain ⟨f, hf⟩ : ∃ f, M[k]? = some f := ⟨_, List.getElem?_eq_getElem (by rw [← HBM.out.len]; exact hlt3)⟩
                  obtain ⟨g, o, rfl, d0, _⟩ := HAB.out wr HL3.out.1
                  obtain ⟨g', o', rfl, hg', hc'⟩ := (HBM.out.src.below (HB4.out.1.trans (HL3.out.1.mono HB4.out.1.size))).lies k f hf
                  have f0 : wr.cell? ⟨g', o' + k * 3, none⟩ = some (.string f.key) := hc' 0 _ rfl
                  have HHS := Lib.hid (has_succ (k := e.key) hf)
                  have hk0 : (0 : Int) ≤ (k : Int) := by omega
                  have hk1 : (k : Int) < (t : Int) := by omega
                  have HND : Hid (∀ nq, Below w4.heap.size w4 (wr.drewN nq)) := fun nq => HL3.out.1.trans ⟨rfl, rfl, rfl, by simp, fun _ _ => rfl⟩
                  clear hf hc'
                  cases bb with
                  | true =>
                    have HNB : Hid (true = hasK (M.take (k + 1)) e.key) := by show _ = _; rw [HHS.out, ← HL3.out.2]; rfl
                    go_wp2_with fail
                    go_quiet (fail)
                    go_wp2_with fail
                    exact ⟨⟨true, k + 1, rfl, by simp, by omega, HND.out _, HNB.out⟩, by simp [intOf]; omega⟩
                  | false =>
                    by_cases hke : f.key = e.key
                    · have HNB : Hid (true = hasK (M.take (k + 1)) e.key) := by show _ = _; rw [HHS.out, decide_eq_true hke]; simp
                      have hkk : (f.key.toList == e.key.toList) = true := by rw [hke]; simp
                      clear hke
                      go_wp2_with fail
                      go_quiet (fail)
                      go_wp2_with fail
                      exact ⟨⟨true, k + 1, rfl, by simp, by omega, HND.out _, HNB.out⟩, by simp [intOf]; omega⟩
                    · have HNB : Hid (false = hasK (M.take (k + 1)) e.key) := by show _ = _; rw [HHS.out, ← HL3.out.2, decide_eq_false hke]; rfl
                      have hkk : (f.key.toList == e.key.toList) = false := key_ne hke
                      clear hke
                      go_wp2_with fail
                      go_quiet (fail)
                      go_wp2_with fail
                      exact ⟨⟨false, k + 1, rfl, by simp, by omega, HND.out _, HNB.out⟩, by simp [intOf]; omega⟩
                · obtain rfl : k = t := by omega
                  have HBB : Hid (bb = hasK M e.key) := by
                    show _ = _
                    rw [HL3.out.2, List.take_of_length_le (by rw [HBM.out.len]; exact Nat.le_refl _)]
                  obtain ⟨x, hx⟩ : ∃ x, x = (getE J e.key).getD ent0 := ⟨_, rfl⟩
                  obtain ⟨is, his⟩ : ∃ is, is = (getE J e.key).isSome := ⟨_, rfl⟩
                  have HGK : Hid (Calls Try.prog 11 #[.pointer (some ⟨p, 0, none⟩), .string e.key] wr fun r w' => r = .returned (.tuple #[.agg #[.string x.key, .string x.value, .int .i64 x.ver], .bool is]) ∧ Below wr.heap.size wr w') := by
                    have h := HGE.out wr HL3.out.1 e.key
                    unfold GetLeft gotE at h
                    rw [← hx, ← his] at h
                    exact h
                  have HXE : Hid (bb = false → x = e ∧ is = true) := fun hb => by
                    have h := HJF.out e (List.mem_of_getElem? HEM.out) (by rw [← HBB.out]; exact hb)
                    rw [hx, his, h]
                    exact ⟨rfl, rfl⟩
                  obtain ⟨g, o, rfl, d0, d1, d2⟩ := HAB.out wr HL3.out.1
                  have HQS := Lib.hid hqs
                  have hq9 : (q : Int) ≤ 600 := by omega
                  clear hx his
                  go_wp2_with fail
                  refine HGK.out.mono ?_
                  rintro r w5 ⟨rfl, hb5⟩
                  obtain ⟨W6, hW6⟩ : ∃ W6, W6 = w5.alloc (.cells #[.string x.key, .string x.value, .int .i64 x.ver] 28) := ⟨_, rfl⟩
                  obtain ⟨xb, hxb⟩ : ∃ z, z = w5.heap.size := ⟨_, rfl⟩
                  have HB6 : Hid (Below w4.heap.size w4 W6 ∧ BoxE W6 xb x) := by show _ ∧ _; rw [hW6, hxb]; exact ⟨HL3.out.1.trans ((hb5.alloc hb5.size _).mono HL3.out.1.size), heap_alloc_new w5 _⟩
                  obtain ⟨x0, x1, x2, xl⟩ := HB6.out.2.cells
                  obtain ⟨g', o', hgo, c0, c1, c2⟩ := HAB.out W6 HB6.out.1
                  obtain ⟨rfl, rfl⟩ : g = g' ∧ o = o' := by simpa using hgo
                  have HND : Hid (∀ nq, Below w4.heap.size w4 (W6.drewN nq)) := fun nq => HB6.out.1.trans ⟨rfl, rfl, rfl, by simp, fun _ _ => rfl⟩
                  clear hb5 d0 d1 d2 hgo
                  cases bb with
                  | true =>
                    have HNC : Hid (q = k + cntN F M (s + 1)) := by show _ = _; rw [HNS.out, ← HBB.out, if_pos rfl]; exact HL2.out.2
                    subst hxb hW6
                    go_wp2_with fail
                    exact ⟨⟨q, s + 1, rfl, by simp, by omega, by omega, HB6.out.1, HNC.out⟩, by simp [intOf]; omega⟩
                  | false =>
                    obtain ⟨rfl, rfl⟩ := HXE.out rfl
                    have HNC : Hid (q + 1 = k + cntN F M (s + 1)) := by show _ = _; rw [HNS.out, ← HBB.out, if_neg (by simp), HL2.out.2]; omega
                    go_wp2_with fail
                    rw [← hW6, ← hxb]
                    clear hW6 hxb
                    go_quiet (fail)
                    go_wp2_with fail
                    exact ⟨⟨q + 1, s + 1, by simp, by simp, by omega, by omega, HND.out _, HNC.out⟩, by simp [intOf]; omega⟩
            · obtain rfl : s = n := by omega
              have hq : q = j0 := by rw [HJMN.out]; exact HL2.out.2
              subst hq
              have HRM : Hid (Calls Try.prog 17 #[.pointer (some ⟨p, 0, none⟩), .int .i64 more] wr fun e w' => e = .returned (.bool (decide (more ≤ 128 - (q : Int)))) ∧ w' = wr) := by
                have h := room_17 p a3 c3 J more wr (HB4.out.2.below HL2.out.1) (by have := H128.out; omega)
                rw [← HJL.out] at h
                exact h
              have HE := Lib.hid (HB4.out.1.trans (HL2.out.1.mono HB4.out.1.size))
              have hq8 : (q : Int) ≤ 128 := by omega
              have hdd : decide ((q : Int) + more ≤ 128) = decide (more ≤ 128 - (q : Int)) := by
                rw [Bool.eq_iff_iff, decide_eq_true_eq, decide_eq_true_eq]
                omega
              obtain ⟨dd, hdv⟩ : ∃ dd, dd = decide (more ≤ 128 - (q : Int)) := ⟨_, rfl⟩
              rw [← hdv] at hdd HRM
              have hbb : (dd == dd) = true := by simp
              clear hdv
              go_wp2_with fail
              refine HRM.out.mono ?_
              rintro e w9 ⟨rfl, hw9⟩
              obtain rfl : wr = w9 := hw9.symm
              go_wp2_with fail
              go_ret
              exact ⟨rfl, HE.out⟩
end Go.Proofs.Ytopmbphdkohbmaa
