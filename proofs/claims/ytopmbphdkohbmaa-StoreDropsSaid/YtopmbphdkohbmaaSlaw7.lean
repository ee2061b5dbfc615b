/- A store: what is dropped is gone. -/
import Derived.Test.YtopmbphdkohbmaaSlaw3
namespace Go.Proofs.Ytopmbphdkohbmaa
open Go.RowKit Go.My
theorem maxOf7 {e : Ent} (h : fitE e = true) : e.key.size ≤ maxLen ∧ e.value.size ≤ maxLen := by
  unfold fitE at h
  simp only [Bool.and_eq_true, decide_eq_true_eq] at h
  unfold maxLen
  omega
theorem row_at {w w' : World} {base p n cap : Nat} {a : Option Addr} {L : List Ent} {cs : Array Value} (h : w.ownsRow base 28 3 (.slice a n cap) n (L.flatMap entL)) (hp : w.heap[p]? = some (.cells cs 52 (0, 0))) (hw : Wrote [p] w w') : w'.ownsRow base 28 3 (.slice a n cap) n (L.flatMap entL) :=
  row_wrote h hw fun g hg hm => by
    obtain rfl : g = p := by simpa using hm
    obtain ⟨_, cur, hcur⟩ := row_block h hg
    rw [hp] at hcur
    cases hcur
theorem out_none {F : List Ent} (fr tk : ByteArray) : (F.filter fun e => !inR fr tk e).filter (inR fr tk) = [] := by
  rw [List.filter_filter, List.filter_eq_nil_iff]
  intro e _
  cases inR fr tk e <;> simp
set_option maxRecDepth 100000 in
set_option maxHeartbeats 3200000 in
theorem drops_any (a : Option Addr) (n cap : Nat) (F : List Ent) (fr tk : ByteArray) (w : World) (ha : AskS w a n cap F) :
    Calls Try.prog 7 #[.slice a n cap, .string fr, .string tk] w fun e w' => e = .returned (.bool true) ∧ Below w.heap.size w w' := by
  have HA := Lib.hid ha
  have HH := Lib.hid (head_8 w)
  clear ha
  go_enter Try.func7, Try.ntmps7
  go_wp2_with fail
  refine HH.out.mono ?_
  rintro e w1 ⟨rfl, hb1⟩
  have HB1 := Lib.hid hb1
  have HO := Lib.hid (HA.out.of9 w1 hb1)
  clear hb1
  go_wp2_with fail
  refine HO.out.mono ?_
  rintro e w2 ⟨hb2, hof⟩
  have HB2 := Lib.hid (HB1.out.trans (hb2.mono HB1.out.size))
  rcases hof with ⟨rfl, _⟩ | ⟨p, a', cap', rfl, hok, hp, hcell, hsrc⟩
  · clear hb2
    go_wp2_with fail
    go_ret
    exact ⟨rfl, HB2.out⟩
  · have HP : Hid (w.heap.size ≤ p) := Nat.le_trans HB1.out.size hp
    have HOK := Lib.hid hok
    have HS : Hid (StoreAt w2 p a' cap' F) := ⟨hcell, hsrc, hok.up⟩
    have HFW : Hid (F.length ≤ 128) := hok.few
    have HG := Lib.hid (HA.out.gr10 w2)
    have hgr := few_great hok.few
    rw [← HA.out.len] at hgr
    rw [hgr] at HG
    obtain ⟨S, hS⟩ : ∃ S, S = F.filter (inR fr tk) := ⟨_, rfl⟩
    obtain ⟨R, hR⟩ : ∃ R, R = F.filter fun e => !inR fr tk e := ⟨_, rfl⟩
    have HSD := Lib.hid hS
    have HRD := Lib.hid hR
    have hlen := parts_len (inR fr tk) F
    rw [← hS, ← hR] at hlen
    have HLEN := Lib.hid hlen
    have HUR : Hid (Up R) := by show Up R; rw [hR]; exact hok.up.sublist List.filter_sublist
    have HOS : Hid (OfOK S) := by show OfOK S; rw [hS]; exact ok_filter hok _
    have HIN : Hid (∀ e ∈ S, inR fr tk e = true) := by show ∀ _, _; rw [hS]; exact fun e he => (List.mem_filter.1 he).2
    have HJN : Hid (joinE R S = F) := by show _ = _; rw [hS, hR]; exact join_parts _ hok.up
    have HOUT : Hid (R.filter (inR fr tk) = []) := by show _ = _; rw [hR]; exact out_none fr tk
    have HRS : Hid (Calls Try.prog 12 #[.pointer (some ⟨p, 0, none⟩), .string fr, .string tk] w2 (JoinLeft w2 S)) := by
      show Calls _ _ _ _ _
      rw [hS]
      exact range_12 p a' cap' F fr tk w2 HS.out (by have := HFW.out; omega)
    clear hb2 hok hp hcell hsrc hgr hS hR hlen
    go_wp2_with fail
    refine HG.out.mono ?_
    rintro e w' ⟨rfl, hw⟩
    obtain rfl : w2 = w' := hw.symm
    go_wp2_with fail
    refine HRS.out.mono ?_
    rintro e w3 ⟨u, rfl, hrow, hb3⟩
    obtain ⟨oa, oc, rfl, _⟩ := row_form hrow
    have HROW := Lib.hid hrow
    have HB3 := Lib.hid hb3
    obtain ⟨s0, hs0⟩ : ∃ m, m = S.length := ⟨_, rfl⟩
    have HSL := Lib.hid hs0
    have hs9 : s0 ≤ 128 := by rw [hs0]; exact HOS.out.few
    rw [← hs0] at HROW ⊢
    clear hrow hb3 hs0
    have P0 : Hid (Below w3.heap.size w3 w3) := Below.refl _ _
    go_wp2_with fail
    go_loopw [10] (fun x wr => ∃ m : Nat, x = .int .i64 m ∧ m ≤ s0 ∧ wr = w3) (fun x _ => s0 - (intOf x).toNat)
    case atStart => exact ⟨0, rfl, by omega, rfl⟩
    case round =>
      obtain ⟨m, rfl, hm, ew⟩ := hrel
      obtain rfl : w3 = wr := ew.symm
      by_cases hlt : m < s0
      · obtain ⟨e, he⟩ : ∃ e, S[m]? = some e := ⟨_, List.getElem?_eq_getElem (by rw [← HSL.out]; exact hlt)⟩
        have hi := HIN.out e (List.mem_of_getElem? he)
        obtain ⟨g, o, rfl, hg, hc⟩ := (row_src HROW.out HSL.out).lies m e he
        have d0 : w3.cell? ⟨g, o + m * 3, none⟩ = some (.string e.key) := hc 0 _ rfl
        have hm0' : (0 : Int) ≤ (m : Int) := by omega
        have hm1 : (m : Int) < (s0 : Int) := by omega
        have hm99 : (s0 : Int) ≤ 128 := by omega
        have h1 : Op.bytesLess e.key.toList fr.toList = false := by
          unfold inR lessK at hi
          rw [Bool.and_eq_true] at hi
          simpa using hi.1
        by_cases h2 : tk = ⟨#[]⟩
        · subst h2
          clear he hc hi
          go_wp2_with fail
          exact ⟨⟨m + 1, by simp, by omega, trivial⟩, by simp [intOf]; omega⟩
        · have h3 : Op.bytesLess e.key.toList tk.toList = true := by
            unfold inR belowT at hi
            rw [Bool.and_eq_true, decide_eq_false h2, Bool.false_or] at hi
            exact hi.2
          have hne := not_empty h2
          have hne2 := key_ne h2
          clear he hc hi h2
          go_wp2_with fail
          exact ⟨⟨m + 1, by simp, by omega, trivial⟩, by simp [intOf]; omega⟩
      · obtain rfl : m = s0 := by omega
        have HDR : Hid (Calls Try.prog 18 #[.pointer (some ⟨p, 0, none⟩), .string fr, .string tk] w3 (DropLeft w3 p R)) := by
          show Calls _ _ _ _ _
          rw [HRD.out]
          exact drop_18 p a' cap' F fr tk w3 (HS.out.below HB3.out) (by have := HFW.out; omega)
        go_wp2_with fail
        refine HDR.out.mono ?_
        rintro e w4 ⟨⟨v, rfl⟩, hwr, a4, c4, hc4, hs4⟩
        have hb3w := HB2.out.trans (HB3.out.mono HB2.out.size)
        have HB4 : Hid (Below w.heap.size w w4 ∧ StoreAt w4 p a4 c4 R ∧ w4.ownsRow w2.heap.size 28 3 (.slice oa m oc) m (S.flatMap entL)) :=
          ⟨hb3w.trans (hwr.below hb3w.size fun g hg => (by simpa using hg : g = p) ▸ HP.out), ⟨hc4, hs4, HUR.out⟩, row_at HROW.out (HS.out.below HB3.out).cell hwr⟩
        have HR4 : Hid (Calls Try.prog 12 #[.pointer (some ⟨p, 0, none⟩), .string ⟨#[]⟩, .string ⟨#[]⟩] w4 (JoinLeft w4 R)) := by
          have h := range_12 p a4 c4 R ⟨#[]⟩ ⟨#[]⟩ w4 HB4.out.2.1 (by have := HLEN.out; have := HFW.out; omega)
          rw [all_all] at h
          exact h
        clear hwr hc4 hs4 hb3w
        go_wp2_with fail
        refine HR4.out.mono ?_
        rintro e w5 ⟨u, rfl, hrow, hb5⟩
        obtain ⟨la, lc, rfl, _⟩ := row_form hrow
        have HB5 : Hid (Below w.heap.size w w5 ∧ StoreAt w5 p a4 c4 R ∧ w5.ownsRow w2.heap.size 28 3 (.slice oa m oc) m (S.flatMap entL)) :=
          ⟨HB4.out.1.trans (hb5.mono HB4.out.1.size), HB4.out.2.1.below hb5, row_below HB4.out.2.2 hb5⟩
        have HR5 : Hid (Calls Try.prog 12 #[.pointer (some ⟨p, 0, none⟩), .string fr, .string tk] w5 (JoinLeft w5 [])) := by
          have h := range_12 p a4 c4 R fr tk w5 HB5.out.2.1 (by have := HLEN.out; have := HFW.out; omega)
          rw [HOUT.out] at h
          exact h
        obtain ⟨r0, hr0⟩ : ∃ r, r = R.length := ⟨_, rfl⟩
        have hsum : r0 + m = n := by rw [hr0, HSL.out, HA.out.len]; exact HLEN.out
        have hn9 : n ≤ 128 := by rw [HA.out.len]; exact HFW.out
        rw [← hr0]
        have hwr2 : IntKind.i64.wrap ((r0 : Int) + (m : Int)) = (n : Int) := by rw [IntKind.wrap_i64]; omega
        have hsi : (r0 : Int) + (m : Int) = (n : Int) := by omega
        have HSI := Lib.hid hsi
        have hr9 : (r0 : Int) ≤ 128 := by omega
        have hm9 : (m : Int) ≤ 128 := by omega
        clear hrow hb5 hr0 hsum hwr2 hsi
        go_wp2_with fail
        refine HR5.out.mono ?_
        rintro e w6 ⟨u, rfl, hrow, hb6⟩
        obtain ⟨na, nc, rfl, _⟩ := row_form hrow
        have HB6 : Hid (Below w.heap.size w w6 ∧ StoreAt w6 p a4 c4 R ∧ SrcAny w6 oa oc S) :=
          ⟨HB5.out.1.trans (hb6.mono HB5.out.1.size), HB5.out.2.1.below hb6, (row_src (row_below HB5.out.2.2 hb6) HSL.out).any⟩
        have HLAY : Hid (Calls Try.prog 16 #[.pointer (some ⟨p, 0, none⟩), .slice oa m oc] w6 (LayLeft w6 p R S)) := by
          have h := lay_16 p a4 oa c4 oc R S w6 HB6.out.2.1 (by have := HLEN.out; have := HFW.out; omega) HB6.out.2.2 (by have := HOS.out.few; omega) (fun e he => maxOf7 (HOS.out.fit e he))
          rw [← HSL.out] at h
          exact h
        have hneq : ((r0 : Int) + (m : Int) != (n : Int)) = false := by rw [HSI.out]; simp
        clear hrow hb6
        go_wp2_with fail
        refine HLAY.out.mono ?_
        rintro e w7 ⟨hwr, hlay⟩
        rcases hlay with ⟨hno, _⟩ | ⟨_, hmany, _⟩ | ⟨_, _, rfl, a7, c7, hc7, hs7⟩
        · exact absurd HOS.out hno
        · rw [HJN.out] at hmany
          have := HFW.out
          omega
        · rw [HJN.out] at hc7 hs7
          have HB7 : Hid (Below w.heap.size w w7 ∧ StoreAt w7 p a7 c7 F) :=
            ⟨HB6.out.1.trans (hwr.below HB6.out.1.size fun g hg => (by simpa using hg : g = p) ▸ HP.out), ⟨hc7, hs7, HOK.out.up⟩⟩
          have HR7 : Hid (Calls Try.prog 12 #[.pointer (some ⟨p, 0, none⟩), .string ⟨#[]⟩, .string ⟨#[]⟩] w7 (JoinLeft w7 F)) := by
            have h := range_12 p a7 c7 F ⟨#[]⟩ ⟨#[]⟩ w7 HB7.out.2 (by have := HFW.out; omega)
            rw [all_all] at h
            exact h
          clear hwr hc7 hs7
          go_wp2_with fail
          refine HR7.out.mono ?_
          rintro e w8 ⟨u, rfl, hrow, hb8⟩
          obtain ⟨ta, tc, rfl, _⟩ := row_form hrow
          have HB8 : Hid (Below w.heap.size w w8 ∧ SrcAny w8 ta tc F) := ⟨HB7.out.1.trans (hb8.mono HB7.out.1.size), (row_src hrow rfl).any⟩
          have HSA : Hid (Calls Try.prog 14 #[.slice ta n tc, .slice a n cap] w8 fun e w' => e = .returned (.bool true) ∧ Below w8.heap.size w8 w') := by
            have h := same_yes ta a tc cap F w8 HB8.out.2 (HA.out.src.below HB8.out.1) (by have := HFW.out; omega)
            rw [← HA.out.len] at h
            exact h
          rw [← HA.out.len]
          clear hrow hb8
          go_wp2_with fail
          refine HSA.out.mono ?_
          rintro e w9 ⟨rfl, hb9⟩
          have HE9 := Lib.hid (HB8.out.1.trans (hb9.mono HB8.out.1.size))
          clear hb9
          go_wp2_with fail
          go_ret
          exact ⟨rfl, HE9.out⟩
end Go.Proofs.Ytopmbphdkohbmaa
