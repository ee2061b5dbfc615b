/- A store: what is told in a range. -/
import Derived.Test.YtopmbphdkohbmaaSlaw3
namespace Go.Proofs.Ytopmbphdkohbmaa
open Go.RowKit Go.My
def cntR (F : List Ent) (fr tk : ByteArray) (m : Nat) : Nat := ((F.take m).filter (inR fr tk)).length
theorem cntR_succ {F : List Ent} {fr tk : ByteArray} {m : Nat} {e : Ent} (h : F[m]? = some e) : cntR F fr tk (m + 1) = if inR fr tk e = true then cntR F fr tk m + 1 else cntR F fr tk m := by
  unfold cntR
  rw [List.take_add_one, h]
  cases hi : inR fr tk e <;> simp [hi]
theorem cntR_at : ∀ {F : List Ent} {fr tk : ByteArray} {m : Nat} {e : Ent}, F[m]? = some e → inR fr tk e = true → (F.filter (inR fr tk))[cntR F fr tk m]? = some e
  | [], _, _, _, _, h, _ => by simp at h
  | a :: F, fr, tk, 0, e, h, hi => by
    obtain rfl : a = e := by simpa using h
    rw [List.filter_cons_of_pos hi]
    rfl
  | a :: F, fr, tk, m + 1, e, h, hi => by
    have ih := cntR_at (F := F) (m := m) (by simpa using h) hi
    unfold cntR at ih ⊢
    rw [List.take_succ_cons]
    cases ha : inR fr tk a with
    | true => rw [List.filter_cons_of_pos ha, List.filter_cons_of_pos ha, List.length_cons, List.getElem?_cons_succ]; exact ih
    | false => rw [List.filter_cons_of_neg (by simp [ha]), List.filter_cons_of_neg (by simp [ha])]; exact ih
theorem has_succ {F : List Ent} {k : ByteArray} {m : Nat} {e : Ent} (h : F[m]? = some e) : hasK (F.take (m + 1)) k = (hasK (F.take m) k || decide (e.key = k)) := by
  unfold hasK
  rw [List.take_add_one, h, List.any_append]
  simp
set_option maxRecDepth 100000 in
set_option maxHeartbeats 3200000 in
theorem keys_any (a : Option Addr) (n cap : Nat) (F : List Ent) (k fr tk : ByteArray) (w : World) (ha : AskS w a n cap F) :
    Calls Try.prog 4 #[.slice a n cap, .string k, .string fr, .string tk] w fun e w' => e = .returned (.bool true) ∧ Below w.heap.size w w' := by
  have HA := Lib.hid ha
  have HH := Lib.hid (head_8 w)
  clear ha
  go_enter Try.func4, Try.ntmps4
  go_wp2_with fail
  refine HH.out.mono ?_
  rintro e w1 ⟨rfl, hb1⟩
  have HB1 := Lib.hid hb1
  have HO := Lib.hid (HA.out.of9 w1 hb1)
  clear hb1
  go_wp2_with fail
  refine HO.out.mono ?_
  rintro e w2 ⟨hb2, hof⟩
  have HB2 := Lib.hid (HB1.out.trans (hb2.mono HB1.out.size))
  rcases hof with ⟨rfl, _⟩ | ⟨p, a', cap', rfl, hok, hp, hcell, hsrc⟩
  · clear hb2
    go_wp2_with fail
    go_ret
    exact ⟨rfl, HB2.out⟩
  · have HP : Hid (w.heap.size ≤ p) := Nat.le_trans HB1.out.size hp
    have HOK := Lib.hid hok
    have HS : Hid (StoreAt w2 p a' cap' F) := ⟨hcell, hsrc, hok.up⟩
    have HFW : Hid (F.length ≤ 128) := hok.few
    have HG := Lib.hid (HA.out.gr10 w2)
    have hgr := few_great hok.few
    rw [← HA.out.len] at hgr
    rw [hgr] at HG
    obtain ⟨x, hx⟩ : ∃ x, x = (getE F k).getD ent0 := ⟨_, rfl⟩
    obtain ⟨is, his⟩ : ∃ is, is = (getE F k).isSome := ⟨_, rfl⟩
    have HX := Lib.hid hx
    have HIS := Lib.hid his
    have HGX : Hid (∀ W, Below w2.heap.size w2 W → Calls Try.prog 11 #[.pointer (some ⟨p, 0, none⟩), .string k] W fun e w' => e = .returned (.tuple #[.agg #[.string x.key, .string x.value, .int .i64 x.ver], .bool is]) ∧ Below W.heap.size W w') := fun W hW => by
      have h := get_11 p a' cap' F k W (HS.out.below hW) (by have := HFW.out; omega)
      unfold GetLeft gotE at h
      rw [← HX.out, ← HIS.out] at h
      exact h
    have HR : Hid (∀ W, Below w2.heap.size w2 W → Calls Try.prog 12 #[.pointer (some ⟨p, 0, none⟩), .string ⟨#[]⟩, .string ⟨#[]⟩] W (JoinLeft W F)) := fun W hW => by
      have h := range_12 p a' cap' F ⟨#[]⟩ ⟨#[]⟩ W (HS.out.below hW) (by have := HFW.out; omega)
      rw [all_all] at h
      exact h
    have HR2 : Hid (∀ W, Below w2.heap.size w2 W → Calls Try.prog 12 #[.pointer (some ⟨p, 0, none⟩), .string fr, .string tk] W (JoinLeft W (F.filter (inR fr tk)))) := fun W hW => range_12 p a' cap' F fr tk W (HS.out.below hW) (by have := HFW.out; omega)
    clear hb2 hok hp hcell hsrc hgr hx his
    go_wp2_with fail
    refine HG.out.mono ?_
    rintro e w' ⟨rfl, hw⟩
    obtain rfl : w2 = w' := hw.symm
    go_wp2_with fail
    refine (HGX.out _ (Below.refl _ _)).mono ?_
    rintro e w3 ⟨rfl, hb3⟩
    obtain ⟨W4, hW4⟩ : ∃ W4, W4 = w3.alloc (.cells #[.string x.key, .string x.value, .int .i64 x.ver] 28) := ⟨_, rfl⟩
    obtain ⟨xb, hxb⟩ : ∃ z, z = w3.heap.size := ⟨_, rfl⟩
    have HB4 : Hid (Below w2.heap.size w2 W4 ∧ BoxE W4 xb x) := by show _ ∧ _; rw [hW4, hxb]; exact ⟨hb3.alloc hb3.size _, heap_alloc_new w3 _⟩
    clear hb3
    go_wp2_with fail
    rw [← hW4, ← hxb]
    clear hW4 hxb
    refine (HR.out _ HB4.out.1).mono ?_
    rintro e w5 ⟨u, rfl, hrow, hb5⟩
    obtain ⟨ra, rc, rfl, _⟩ := row_form hrow
    have HB5 : Hid (Below w2.heap.size w2 w5 ∧ BoxE w5 xb x ∧ SrcAt w5 ra rc F) := ⟨HB4.out.1.trans (hb5.mono HB4.out.1.size), HB4.out.2.below hb5, row_src hrow rfl⟩
    obtain ⟨m0, hm0⟩ : ∃ m, m = F.length := ⟨_, rfl⟩
    have HM := Lib.hid hm0
    have hm9 : m0 ≤ 128 := by rw [hm0]; exact HFW.out
    rw [← hm0]
    clear hrow hb5 hm0
    go_wp2_with fail
    refine (HR2.out _ HB5.out.1).mono ?_
    rintro e w6 ⟨u, rfl, hrow, hb6⟩
    obtain ⟨sa, sc, rfl, _⟩ := row_form hrow
    have HB6 : Hid (Below w2.heap.size w2 w6 ∧ BoxE w6 xb x ∧ SrcAt w6 ra rc F ∧ SrcAt w6 sa sc (F.filter (inR fr tk))) := ⟨HB5.out.1.trans (hb6.mono HB5.out.1.size), HB5.out.2.1.below hb6, HB5.out.2.2.below hb6, row_src hrow rfl⟩
    obtain ⟨s0, hs0⟩ : ∃ m, m = (F.filter (inR fr tk)).length := ⟨_, rfl⟩
    have HSL := Lib.hid hs0
    have hs9 : s0 ≤ 128 := by rw [hs0]; exact Nat.le_trans (List.length_filter_le _ _) HFW.out
    rw [← hs0]
    clear hrow hb6 hs0
    have HE : Hid (Below w.heap.size w w6) := HB2.out.trans (HB6.out.1.mono HB2.out.size)
    have P0 : Hid (Below w6.heap.size w6 w6 ∧ false = hasK (F.take 0) k ∧ 0 = cntR F fr tk 0) := ⟨Below.refl _ _, rfl, rfl⟩
    go_wp2_with fail
    go_loopw [15, 16, 17] (fun x y z wr => ∃ (b : Bool) (c m : Nat), x = .bool b ∧ y = .int .i64 c ∧ z = .int .i64 m ∧ m ≤ m0 ∧ c ≤ m ∧ Hid (Below w6.heap.size w6 wr ∧ b = hasK (F.take m) k ∧ c = cntR F fr tk m)) (fun _ _ z _ => m0 - (intOf z).toNat)
    case atStart => exact ⟨false, 0, 0, rfl, rfl, rfl, by omega, by omega, P0⟩
    case round =>
      obtain ⟨b, c, m, rfl, rfl, rfl, hm, hcm, HL⟩ := hrel
      by_cases hlt : m < m0
      · obtain ⟨e, he⟩ : ∃ e, F[m]? = some e := ⟨_, List.getElem?_eq_getElem (by rw [← HM.out]; exact hlt)⟩
        have hb := HL.out.1
        obtain ⟨g, o, rfl, hg, hc⟩ := (HB6.out.2.2.1.below hb).lies m e he
        have d0 : wr.cell? ⟨g, o + m * 3, none⟩ = some (.string e.key) := hc 0 _ rfl
        have d1 : wr.cell? ⟨g, o + m * 3 + 1, none⟩ = some (.string e.value) := hc 1 _ rfl
        have d2 : wr.cell? ⟨g, o + m * 3 + 2, none⟩ = some (.int .i64 e.ver) := hc 2 _ rfl
        obtain ⟨x0, x1, x2, xl⟩ := (HB6.out.2.1.below hb).cells
        have hm0' : (0 : Int) ≤ (m : Int) := by omega
        have hm1 : (m : Int) < (m0 : Int) := by omega
        have hm99 : (m0 : Int) ≤ 128 := by omega
        have hcm1 : (c : Int) ≤ 128 := by omega
        have HND : Hid (∀ nq, Below w6.heap.size w6 (wr.drewN nq)) := fun nq => hb.trans ⟨rfl, rfl, rfl, by simp, fun _ _ => rfl⟩
        have HHS := Lib.hid (has_succ (k := k) he)
        have HCS := Lib.hid (cntR_succ (fr := fr) (tk := tk) he)
        have HEM := Lib.hid he
        have hthree : (b = true) ∨ (b = false ∧ e.key = k ∧ x = e) ∨ (b = false ∧ e.key ≠ k) := by
          cases b with
          | true => exact .inl rfl
          | false =>
            by_cases hk : e.key = k
            · refine .inr (.inl ⟨rfl, hk, ?_⟩)
              rw [HX.out, ← hk, get_mem HOK.out.up (List.mem_of_getElem? HEM.out)]
              rfl
            · exact .inr (.inr ⟨rfl, hk⟩)
        have hfour : (lessK e.key fr = true ∧ inR fr tk e = false) ∨ (lessK e.key fr = false ∧ tk = ⟨#[]⟩ ∧ inR fr tk e = true) ∨ (lessK e.key fr = false ∧ tk ≠ ⟨#[]⟩ ∧ lessK e.key tk = true ∧ inR fr tk e = true) ∨ (lessK e.key fr = false ∧ tk ≠ ⟨#[]⟩ ∧ lessK e.key tk = false ∧ inR fr tk e = false) := by
          unfold inR belowT
          cases h1 : lessK e.key fr with
          | true => simp
          | false =>
            by_cases h2 : tk = ⟨#[]⟩
            · simp [h2]
            · cases h3 : lessK e.key tk <;> simp [h2]
        have hin : inR fr tk e = true → c < s0 ∧ ∃ g' o', sa = some ⟨g', o', none⟩ ∧ wr.cell? ⟨g', o' + c * 3, none⟩ = some (.string e.key) ∧ wr.cell? ⟨g', o' + c * 3 + 1, none⟩ = some (.string e.value) ∧ wr.cell? ⟨g', o' + c * 3 + 2, none⟩ = some (.int .i64 e.ver) := fun hi => by
          have h := cntR_at HEM.out hi
          rw [← HL.out.2.2] at h
          obtain ⟨g', o', h1, h2, h3⟩ := (HB6.out.2.2.2.below hb).lies c e h
          exact ⟨by rw [HSL.out]; exact (List.getElem?_eq_some_iff.1 h).1, g', o', h1, h3 0 _ rfl, h3 1 _ rfl, h3 2 _ rfl⟩
        have HIN := Lib.hid hin
        have hee : (e.key.toList == e.key.toList) = true := by simp
        clear he hc hb hin
        rcases hthree with rfl | ⟨rfl, hk, rfl⟩ | ⟨rfl, hk⟩
        · have HNB : Hid (true = hasK (F.take (m + 1)) k) := by show _ = _; rw [HHS.out, ← HL.out.2.1]; rfl
          rcases hfour with ⟨h1, hi⟩ | ⟨h1, h2, hi⟩ | ⟨h1, h2, h3, hi⟩ | ⟨h1, h2, h3, hi⟩
          · unfold lessK at h1
            have HNC : Hid (c = cntR F fr tk (m + 1)) := by show _ = _; rw [HCS.out, if_neg (by rw [hi]; simp), ← HL.out.2.2]
            clear hi
            go_wp2_with fail
            go_quiet (fail)
            go_wp2_with fail
            exact ⟨⟨true, c, m + 1, rfl, rfl, by simp, by omega, by omega, HND.out _, HNB.out, HNC.out⟩, by simp [intOf]; omega⟩
          · unfold lessK at h1
            obtain ⟨hcs, g', o', rfl, f0, f1, f2⟩ := HIN.out hi
            have HNC : Hid (c + 1 = cntR F fr tk (m + 1)) := by show _ = _; rw [HCS.out, if_pos hi, ← HL.out.2.2]
            have hcs1 : (c : Int) < (s0 : Int) := by omega
            have hcs0 : (0 : Int) ≤ (c : Int) := by omega
            have hge : decide (s0 ≤ c) = false := decide_eq_false (by omega)
            subst h2
            clear hi
            go_wp2_with fail
            go_quiet (fail)
            go_wp2_with fail
            go_quiet (fail)
            go_wp2_with fail
            exact ⟨⟨true, c + 1, m + 1, rfl, by simp, by simp, by omega, by omega, HND.out _, HNB.out, HNC.out⟩, by simp [intOf]; omega⟩
          · unfold lessK at h1
            obtain ⟨hcs, g', o', rfl, f0, f1, f2⟩ := HIN.out hi
            have HNC : Hid (c + 1 = cntR F fr tk (m + 1)) := by show _ = _; rw [HCS.out, if_pos hi, ← HL.out.2.2]
            have hcs1 : (c : Int) < (s0 : Int) := by omega
            have hcs0 : (0 : Int) ≤ (c : Int) := by omega
            have hge : decide (s0 ≤ c) = false := decide_eq_false (by omega)
            unfold lessK at h3
            have hne := not_empty h2
            have hne2 := key_ne h2
            clear h2
            clear hi
            go_wp2_with fail
            go_quiet (fail)
            go_wp2_with fail
            go_quiet (fail)
            go_wp2_with fail
            exact ⟨⟨true, c + 1, m + 1, rfl, by simp, by simp, by omega, by omega, HND.out _, HNB.out, HNC.out⟩, by simp [intOf]; omega⟩
          · unfold lessK at h1
            have HNC : Hid (c = cntR F fr tk (m + 1)) := by show _ = _; rw [HCS.out, if_neg (by rw [hi]; simp), ← HL.out.2.2]
            unfold lessK at h3
            have hne := not_empty h2
            have hne2 := key_ne h2
            clear h2
            clear hi
            go_wp2_with fail
            go_quiet (fail)
            go_wp2_with fail
            exact ⟨⟨true, c, m + 1, rfl, rfl, by simp, by omega, by omega, HND.out _, HNB.out, HNC.out⟩, by simp [intOf]; omega⟩
        · have hkk : (x.key.toList == k.toList) = true := by rw [hk]; simp
          have HNB : Hid (true = hasK (F.take (m + 1)) k) := by show _ = _; rw [HHS.out, decide_eq_true hk]; simp
          clear hk
          rcases hfour with ⟨h1, hi⟩ | ⟨h1, h2, hi⟩ | ⟨h1, h2, h3, hi⟩ | ⟨h1, h2, h3, hi⟩
          · unfold lessK at h1
            have HNC : Hid (c = cntR F fr tk (m + 1)) := by show _ = _; rw [HCS.out, if_neg (by rw [hi]; simp), ← HL.out.2.2]
            clear hi
            go_wp2_with fail
            go_quiet (fail)
            go_wp2_with fail
            exact ⟨⟨true, c, m + 1, rfl, rfl, by simp, by omega, by omega, HND.out _, HNB.out, HNC.out⟩, by simp [intOf]; omega⟩
          · unfold lessK at h1
            obtain ⟨hcs, g', o', rfl, f0, f1, f2⟩ := HIN.out hi
            have HNC : Hid (c + 1 = cntR F fr tk (m + 1)) := by show _ = _; rw [HCS.out, if_pos hi, ← HL.out.2.2]
            have hcs1 : (c : Int) < (s0 : Int) := by omega
            have hcs0 : (0 : Int) ≤ (c : Int) := by omega
            have hge : decide (s0 ≤ c) = false := decide_eq_false (by omega)
            subst h2
            clear hi
            go_wp2_with fail
            go_quiet (fail)
            go_wp2_with fail
            go_quiet (fail)
            go_wp2_with fail
            exact ⟨⟨true, c + 1, m + 1, rfl, by simp, by simp, by omega, by omega, HND.out _, HNB.out, HNC.out⟩, by simp [intOf]; omega⟩
          · unfold lessK at h1
            obtain ⟨hcs, g', o', rfl, f0, f1, f2⟩ := HIN.out hi
            have HNC : Hid (c + 1 = cntR F fr tk (m + 1)) := by show _ = _; rw [HCS.out, if_pos hi, ← HL.out.2.2]
            have hcs1 : (c : Int) < (s0 : Int) := by omega
            have hcs0 : (0 : Int) ≤ (c : Int) := by omega
            have hge : decide (s0 ≤ c) = false := decide_eq_false (by omega)
            unfold lessK at h3
            have hne := not_empty h2
            have hne2 := key_ne h2
            clear h2
            clear hi
            go_wp2_with fail
            go_quiet (fail)
            go_wp2_with fail
            go_quiet (fail)
            go_wp2_with fail
            exact ⟨⟨true, c + 1, m + 1, rfl, by simp, by simp, by omega, by omega, HND.out _, HNB.out, HNC.out⟩, by simp [intOf]; omega⟩
          · unfold lessK at h1
            have HNC : Hid (c = cntR F fr tk (m + 1)) := by show _ = _; rw [HCS.out, if_neg (by rw [hi]; simp), ← HL.out.2.2]
            unfold lessK at h3
            have hne := not_empty h2
            have hne2 := key_ne h2
            clear h2
            clear hi
            go_wp2_with fail
            go_quiet (fail)
            go_wp2_with fail
            exact ⟨⟨true, c, m + 1, rfl, rfl, by simp, by omega, by omega, HND.out _, HNB.out, HNC.out⟩, by simp [intOf]; omega⟩
        · have hkk : (e.key.toList == k.toList) = false := key_ne hk
          have HNB : Hid (false = hasK (F.take (m + 1)) k) := by show _ = _; rw [HHS.out, ← HL.out.2.1, decide_eq_false hk]; rfl
          clear hk
          rcases hfour with ⟨h1, hi⟩ | ⟨h1, h2, hi⟩ | ⟨h1, h2, h3, hi⟩ | ⟨h1, h2, h3, hi⟩
          · unfold lessK at h1
            have HNC : Hid (c = cntR F fr tk (m + 1)) := by show _ = _; rw [HCS.out, if_neg (by rw [hi]; simp), ← HL.out.2.2]
            clear hi
            go_wp2_with fail
            go_quiet (fail)
            go_wp2_with fail
            exact ⟨⟨false, c, m + 1, rfl, rfl, by simp, by omega, by omega, HND.out _, HNB.out, HNC.out⟩, by simp [intOf]; omega⟩
          · unfold lessK at h1
            obtain ⟨hcs, g', o', rfl, f0, f1, f2⟩ := HIN.out hi
            have HNC : Hid (c + 1 = cntR F fr tk (m + 1)) := by show _ = _; rw [HCS.out, if_pos hi, ← HL.out.2.2]
            have hcs1 : (c : Int) < (s0 : Int) := by omega
            have hcs0 : (0 : Int) ≤ (c : Int) := by omega
            have hge : decide (s0 ≤ c) = false := decide_eq_false (by omega)
            subst h2
            clear hi
            go_wp2_with fail
            go_quiet (fail)
            go_wp2_with fail
            go_quiet (fail)
            go_wp2_with fail
            exact ⟨⟨false, c + 1, m + 1, rfl, by simp, by simp, by omega, by omega, HND.out _, HNB.out, HNC.out⟩, by simp [intOf]; omega⟩
          · unfold lessK at h1
            obtain ⟨hcs, g', o', rfl, f0, f1, f2⟩ := HIN.out hi
            have HNC : Hid (c + 1 = cntR F fr tk (m + 1)) := by show _ = _; rw [HCS.out, if_pos hi, ← HL.out.2.2]
            have hcs1 : (c : Int) < (s0 : Int) := by omega
            have hcs0 : (0 : Int) ≤ (c : Int) := by omega
            have hge : decide (s0 ≤ c) = false := decide_eq_false (by omega)
            unfold lessK at h3
            have hne := not_empty h2
            have hne2 := key_ne h2
            clear h2
            clear hi
            go_wp2_with fail
            go_quiet (fail)
            go_wp2_with fail
            go_quiet (fail)
            go_wp2_with fail
            exact ⟨⟨false, c + 1, m + 1, rfl, by simp, by simp, by omega, by omega, HND.out _, HNB.out, HNC.out⟩, by simp [intOf]; omega⟩
          · unfold lessK at h1
            have HNC : Hid (c = cntR F fr tk (m + 1)) := by show _ = _; rw [HCS.out, if_neg (by rw [hi]; simp), ← HL.out.2.2]
            unfold lessK at h3
            have hne := not_empty h2
            have hne2 := key_ne h2
            clear h2
            clear hi
            go_wp2_with fail
            go_quiet (fail)
            go_wp2_with fail
            exact ⟨⟨false, c, m + 1, rfl, rfl, by simp, by omega, by omega, HND.out _, HNB.out, HNC.out⟩, by simp [intOf]; omega⟩
      · obtain rfl : m = m0 := by omega
        have HEND : Hid (Below w.heap.size w wr) := HE.out.trans (HL.out.1.mono HE.out.size)
        have htk : F.take m = F := List.take_of_length_le (by have := HM.out; omega)
        have hbi : b = is := by rw [HL.out.2.1, htk, HIS.out, get_has]
        have hcs : c = s0 := by rw [HL.out.2.2, HSL.out]; unfold cntR; rw [htk]
        have HSA : Hid (Calls Try.prog 14 #[.slice ra m rc, .slice a n cap] wr fun e w' => e = .returned (.bool true) ∧ Below wr.heap.size wr w') := by
          have h := same_yes ra a rc cap F wr (HB6.out.2.2.1.below HL.out.1).any (HA.out.src.below HEND.out) (by have := HFW.out; omega)
          rw [← HA.out.len] at h
          rw [show m = n from HM.out.trans HA.out.len.symm]
          exact h
        subst hbi hcs
        clear htk
        have hbb : (b == b) = true := by simp
        go_wp2_with fail
        refine HSA.out.mono ?_
        rintro e w9 ⟨rfl, hb9⟩
        have HE9 := Lib.hid (HEND.out.trans (hb9.mono HEND.out.size))
        clear hb9
        go_wp2_with fail
        go_ret
        exact ⟨rfl, HE9.out⟩
end Go.Proofs.Ytopmbphdkohbmaa
