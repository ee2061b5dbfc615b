/- A store: what is put is got. -/
import Derived.Test.YtopmbphdkohbmaaSargs
namespace Go.Proofs.Ytopmbphdkohbmaa
open Go.RowKit Go.My
theorem few_great {n : Nat} (h : n ≤ 128) : decide (400 < n) = false := decide_eq_false (by omega)
set_option maxRecDepth 100000 in
set_option maxHeartbeats 3200000 in
theorem puts_any (a : Option Addr) (n cap : Nat) (F : List Ent) (k v o : ByteArray) (w : World) (ha : AskS w a n cap F) :
    Calls Try.prog 3 #[.slice a n cap, .string k, .string v, .string o] w fun e w' => e = .returned (.bool true) ∧ Below w.heap.size w w' := by
  have HA := Lib.hid ha
  have HH := Lib.hid (head_8 w)
  clear ha
  go_enter Try.func3, Try.ntmps3
  go_wp2_with fail
  refine HH.out.mono ?_
  rintro e w1 ⟨rfl, hb1⟩
  have HB1 := Lib.hid hb1
  have HO := Lib.hid (HA.out.of9 w1 hb1)
  clear hb1
  go_wp2_with fail
  refine HO.out.mono ?_
  rintro e w2 ⟨hb2, hof⟩
  have HB2 := Lib.hid (HB1.out.trans (hb2.mono HB1.out.size))
  rcases hof with ⟨rfl, _⟩ | ⟨p, a', cap', rfl, hok, hp, hcell, hsrc⟩
  · clear hb2
    go_wp2_with fail
    go_ret
    exact ⟨rfl, HB2.out⟩
  · have HP : Hid (w.heap.size ≤ p) := Nat.le_trans HB1.out.size hp
    have HOK := Lib.hid hok
    have HS : Hid (StoreAt w2 p a' cap' F) := ⟨hcell, hsrc, hok.up⟩
    have HFW : Hid (F.length ≤ 128) := hok.few
    have HG := Lib.hid (HA.out.gr10 w2)
    have hgr := few_great hok.few
    rw [← HA.out.len] at hgr
    rw [hgr] at HG
    obtain ⟨x, hx⟩ : ∃ x, x = (getE F k).getD ent0 := ⟨_, rfl⟩
    obtain ⟨is, his⟩ : ∃ is, is = (getE F k).isSome := ⟨_, rfl⟩
    obtain ⟨y, hy⟩ : ∃ y, y = (getE F o).getD ent0 := ⟨_, rfl⟩
    obtain ⟨iy, hiy⟩ : ∃ iy, iy = (getE F o).isSome := ⟨_, rfl⟩
    have HX := Lib.hid hx
    have HIS := Lib.hid his
    have HY := Lib.hid hy
    have HIY := Lib.hid hiy
    have HGX : Hid (∀ W, Below w2.heap.size w2 W → Calls Try.prog 11 #[.pointer (some ⟨p, 0, none⟩), .string k] W fun e w' => e = .returned (.tuple #[.agg #[.string x.key, .string x.value, .int .i64 x.ver], .bool is]) ∧ Below W.heap.size W w') := fun W hW => by
      have h := get_11 p a' cap' F k W (HS.out.below hW) (by have := HFW.out; omega)
      unfold GetLeft gotE at h
      rw [← HX.out, ← HIS.out] at h
      exact h
    have HGY : Hid (∀ W, Below w2.heap.size w2 W → Calls Try.prog 11 #[.pointer (some ⟨p, 0, none⟩), .string o] W fun e w' => e = .returned (.tuple #[.agg #[.string y.key, .string y.value, .int .i64 y.ver], .bool iy]) ∧ Below W.heap.size W w') := fun W hW => by
      have h := get_11 p a' cap' F o W (HS.out.below hW) (by have := HFW.out; omega)
      unfold GetLeft gotE at h
      rw [← HY.out, ← HIY.out] at h
      exact h
    clear hb2 hok hp hcell hsrc hgr hx his hy hiy
    go_wp2_with fail
    refine HG.out.mono ?_
    rintro e w' ⟨rfl, hw⟩
    obtain rfl : w2 = w' := hw.symm
    go_wp2_with fail
    refine (HGX.out _ (Below.refl _ _)).mono ?_
    rintro e w3 ⟨rfl, hb3⟩
    obtain ⟨W4, hW4⟩ : ∃ W4, W4 = w3.alloc (.cells #[.string x.key, .string x.value, .int .i64 x.ver] 28) := ⟨_, rfl⟩
    obtain ⟨xb, hxb⟩ : ∃ z, z = w3.heap.size := ⟨_, rfl⟩
    have HB4 : Hid (Below w2.heap.size w2 W4 ∧ BoxE W4 xb x) := by show _ ∧ _; rw [hW4, hxb]; exact ⟨hb3.alloc hb3.size _, heap_alloc_new w3 _⟩
    clear hb3
    go_wp2_with fail
    rw [← hW4, ← hxb]
    clear hW4 hxb
    refine (HGY.out _ HB4.out.1).mono ?_
    rintro e w5 ⟨rfl, hb5⟩
    obtain ⟨W6, hW6⟩ : ∃ W6, W6 = w5.alloc (.cells #[.string y.key, .string y.value, .int .i64 y.ver] 28) := ⟨_, rfl⟩
    obtain ⟨yb, hyb⟩ : ∃ z, z = w5.heap.size := ⟨_, rfl⟩
    have HB6 : Hid (Below w2.heap.size w2 W6 ∧ BoxE W6 xb x ∧ BoxE W6 yb y) := by
      show _ ∧ _ ∧ _
      have h1 := HB4.out.1.trans (hb5.mono HB4.out.1.size)
      have h2 := HB4.out.2.below hb5
      rw [hW6, hyb]
      exact ⟨h1.alloc h1.size _, h2.below ((Below.refl _ _).alloc (Nat.le_refl _) _), heap_alloc_new w5 _⟩
    have HR : Hid (Calls Try.prog 12 #[.pointer (some ⟨p, 0, none⟩), .string ⟨#[]⟩, .string ⟨#[]⟩] W6 (JoinLeft W6 F)) := by
      have h := range_12 p a' cap' F ⟨#[]⟩ ⟨#[]⟩ W6 (HS.out.below HB6.out.1) (by have := HFW.out; omega)
      rw [all_all] at h
      exact h
    clear hb5
    go_wp2_with fail
    rw [← hW6, ← hyb]
    clear hW6 hyb
    refine HR.out.mono ?_
    rintro e w7 ⟨u, rfl, hrow, hb7⟩
    obtain ⟨ra, rc, rfl, _⟩ := row_form hrow
    have HB7 : Hid (Below w2.heap.size w2 w7 ∧ BoxE w7 xb x ∧ BoxE w7 yb y) := ⟨HB6.out.1.trans (hb7.mono HB6.out.1.size), HB6.out.2.1.below hb7, HB6.out.2.2.below hb7⟩
    have HPUT := Lib.hid (put_13 p a' cap' F k v w7 (HS.out.below HB7.out.1) (by have := HFW.out; omega) (ok_pos HOK.out))
    have HS7 := Lib.hid (HS.out.below HB7.out.1)
    obtain ⟨m, hm⟩ : ∃ m, m = F.length := ⟨_, rfl⟩
    have HM := Lib.hid hm
    have hm9 : m ≤ 128 := by rw [hm]; exact HFW.out
    rw [← hm]
    clear hrow hb7 hm
    go_wp2_with fail
    refine HPUT.out.mono ?_
    rintro e w8 ⟨hwr, hput⟩
    have HB8 : Hid (Below w.heap.size w w8 ∧ BoxE w8 xb x ∧ BoxE w8 yb y) := by
      have hb := HB2.out.trans (HB7.out.1.mono HB2.out.size)
      exact ⟨hb.trans (hwr.below hb.size fun g hg => (by simpa using hg : g = p) ▸ HP.out), HB7.out.2.1.wrote HS7.out.cell hwr, HB7.out.2.2.wrote HS7.out.cell hwr⟩
    have hrest : (∃ z, e = .returned (.iface 74 z) ∧ ∃ a cap, StoreAt w8 p a cap F) ∨ (badArg F k v = false ∧ full F k = false ∧ e = .returned .nilIface ∧ ∃ a cap, StoreAt w8 p a cap (joinE F [newE F k v])) := by
      rcases hput with ⟨_, h1, h2⟩ | ⟨_, _, h1, h2⟩ | ⟨h0, h01, h1, a2, c2, h2, h3⟩
      · exact .inl ⟨_, h1, h2⟩
      · exact .inl ⟨_, h1, h2⟩
      · exact .inr ⟨h0, h01, h1, a2, c2, h2, h3, (ok_put HOK.out h0 h01).up⟩
    clear hwr hput
    rcases hrest with ⟨z, rfl, a2, c2, hs8⟩ | ⟨h0, h1, rfl, a2, c2, hs8⟩
    · have HS8 := Lib.hid hs8
      have HGX2 : Hid (∀ W, Below w8.heap.size w8 W → Calls Try.prog 11 #[.pointer (some ⟨p, 0, none⟩), .string k] W fun e w' => e = .returned (.tuple #[.agg #[.string x.key, .string x.value, .int .i64 x.ver], .bool is]) ∧ Below W.heap.size W w') := fun W hW => by
        have h := get_11 p a2 c2 F k W (HS8.out.below hW) (by have := HFW.out; omega)
        unfold GetLeft gotE at h
        rw [← HX.out, ← HIS.out] at h
        exact h
      have HGY2 : Hid (∀ W, Below w8.heap.size w8 W → Calls Try.prog 11 #[.pointer (some ⟨p, 0, none⟩), .string o] W fun e w' => e = .returned (.tuple #[.agg #[.string y.key, .string y.value, .int .i64 y.ver], .bool iy]) ∧ Below W.heap.size W w') := fun W hW => by
        have h := get_11 p a2 c2 F o W (HS8.out.below hW) (by have := HFW.out; omega)
        unfold GetLeft gotE at h
        rw [← HY.out, ← HIY.out] at h
        exact h
      clear hs8
      go_wp2_with fail
      refine (HGX2.out _ (Below.refl _ _)).mono ?_
      rintro e w9 ⟨rfl, hb9⟩
      obtain ⟨W10, hW10⟩ : ∃ W10, W10 = w9.alloc (.cells #[.string x.key, .string x.value, .int .i64 x.ver] 28) := ⟨_, rfl⟩
      obtain ⟨xc, hxc⟩ : ∃ z, z = w9.heap.size := ⟨_, rfl⟩
      have HB10 : Hid (Below w8.heap.size w8 W10 ∧ BoxE W10 xc x) := by show _ ∧ _; rw [hW10, hxc]; exact ⟨hb9.alloc hb9.size _, heap_alloc_new w9 _⟩
      clear hb9
      go_wp2_with fail
      rw [← hW10, ← hxc]
      clear hW10 hxc
      refine (HGY2.out _ HB10.out.1).mono ?_
      rintro e w11 ⟨rfl, hb11⟩
      obtain ⟨W12, hW12⟩ : ∃ W12, W12 = w11.alloc (.cells #[.string y.key, .string y.value, .int .i64 y.ver] 28) := ⟨_, rfl⟩
      obtain ⟨yc, hyc⟩ : ∃ z, z = w11.heap.size := ⟨_, rfl⟩
      have HB12 : Hid (Below w8.heap.size w8 W12 ∧ BoxE W12 xc x ∧ BoxE W12 yc y) := by
        show _ ∧ _ ∧ _
        have h1 := HB10.out.1.trans (hb11.mono HB10.out.1.size)
        have h2 := HB10.out.2.below hb11
        rw [hW12, hyc]
        exact ⟨h1.alloc h1.size _, h2.below ((Below.refl _ _).alloc (Nat.le_refl _) _), heap_alloc_new w11 _⟩
      obtain ⟨x0, x1, x2, xl⟩ := HB12.out.2.1.cells
      obtain ⟨y0, y1, y2, yl⟩ := HB12.out.2.2.cells
      obtain ⟨p0, p1, p2, pl⟩ := (HB8.out.2.1.below HB12.out.1).cells
      obtain ⟨q0, q1, q2, ql⟩ := (HB8.out.2.2.below HB12.out.1).cells
      have HE : Hid (Below w.heap.size w W12) := HB8.out.1.trans (HB12.out.1.mono HB8.out.1.size)
      clear hb11
      subst hyc hW12
      go_wp2_with fail
      go_ret
      exact ⟨rfl, HE.out⟩
    · have HS8 := Lib.hid hs8
      have hold : oldV F k = x.ver := by rw [HX.out]; rfl
      have HNE : Hid (newE F k v = ⟨k, v, x.ver + 1⟩) := by show _ = _; unfold newE; rw [hold]
      have hx0 : 0 ≤ x.ver := by rw [← hold]; exact old_nonneg HOK.out k
      have hx1 : x.ver < 4611686018427387904 := by
        unfold badArg at h0
        rw [hold, Bool.or_eq_false_iff] at h0
        simpa using h0.1
      have HJ9 : Hid ((joinE F [newE F k v]).length ≤ 500) := by have := (ok_put HOK.out h0 h1).few; show _ ≤ _; omega
      have HJN : Hid ((joinE F [newE F k v]).length = if is = true then m else m + 1) := by
        show _ = _
        rw [put_count HOK.out.up, HIS.out, ← HM.out, get_has]
        rfl
      have HGX2 : Hid (∀ W, Below w8.heap.size w8 W → Calls Try.prog 11 #[.pointer (some ⟨p, 0, none⟩), .string k] W fun e w' => e = .returned (.tuple #[.agg #[.string k, .string v, .int .i64 (x.ver + 1)], .bool true]) ∧ Below W.heap.size W w') := fun W hW => by
        have h := get_11 p a2 c2 _ k W (HS8.out.below hW) (by have := HJ9.out; omega)
        unfold GetLeft gotE at h
        rw [put_get HOK.out.up, if_pos (show (newE F k v).key = k from rfl), HNE.out] at h
        exact h
      have HRN : Hid (∀ W, Below w8.heap.size w8 W → Calls Try.prog 12 #[.pointer (some ⟨p, 0, none⟩), .string ⟨#[]⟩, .string ⟨#[]⟩] W (JoinLeft W (joinE F [newE F k v]))) := fun W hW => by
        have h := range_12 p a2 c2 (joinE F [newE F k v]) ⟨#[]⟩ ⟨#[]⟩ W (HS8.out.below hW) (by have := HJ9.out; omega)
        rw [all_all] at h
        exact h
      obtain ⟨y2, iy2, HGY2, HYY⟩ : ∃ (y2 : Ent) (iy2 : Bool), Hid (∀ W, Below w8.heap.size w8 W → Calls Try.prog 11 #[.pointer (some ⟨p, 0, none⟩), .string o] W fun e w' => e = .returned (.tuple #[.agg #[.string y2.key, .string y2.value, .int .i64 y2.ver], .bool iy2]) ∧ Below W.heap.size W w') ∧ Hid (o = k ∨ (y2 = y ∧ iy2 = iy)) := by
        refine ⟨(getE (joinE F [newE F k v]) o).getD ent0, (getE (joinE F [newE F k v]) o).isSome, fun W hW => ?_, ?_⟩
        · have h := get_11 p a2 c2 _ o W (HS8.out.below hW) (by have := HJ9.out; omega)
          unfold GetLeft gotE at h
          exact h
        · show _ ∨ _
          by_cases hko : k = o
          · exact .inl hko.symm
          · refine .inr ?_
            rw [put_get HOK.out.up, if_neg (show ¬ (newE F k v).key = o from hko), HY.out, HIY.out]
            exact ⟨rfl, rfl⟩
      clear hs8 h0 h1 hold
      go_wp2_with fail
      refine (HGX2.out _ (Below.refl _ _)).mono ?_
      rintro e w9 ⟨rfl, hb9⟩
      obtain ⟨W10, hW10⟩ : ∃ W10, W10 = w9.alloc (.cells #[.string k, .string v, .int .i64 (x.ver + 1)] 28) := ⟨_, rfl⟩
      obtain ⟨xc, hxc⟩ : ∃ z, z = w9.heap.size := ⟨_, rfl⟩
      have HB10 : Hid (Below w8.heap.size w8 W10 ∧ BoxE W10 xc ⟨k, v, x.ver + 1⟩) := by show _ ∧ _; rw [hW10, hxc]; exact ⟨hb9.alloc hb9.size _, heap_alloc_new w9 _⟩
      clear hb9
      go_wp2_with fail
      rw [← hW10, ← hxc]
      clear hW10 hxc
      refine (HGY2.out _ HB10.out.1).mono ?_
      rintro e w11 ⟨rfl, hb11⟩
      obtain ⟨W12, hW12⟩ : ∃ W12, W12 = w11.alloc (.cells #[.string y2.key, .string y2.value, .int .i64 y2.ver] 28) := ⟨_, rfl⟩
      obtain ⟨yc, hyc⟩ : ∃ z, z = w11.heap.size := ⟨_, rfl⟩
      have HB12 : Hid (Below w8.heap.size w8 W12 ∧ BoxE W12 xc ⟨k, v, x.ver + 1⟩ ∧ BoxE W12 yc y2) := by
        show _ ∧ _ ∧ _
        have h1 := HB10.out.1.trans (hb11.mono HB10.out.1.size)
        have h2 := HB10.out.2.below hb11
        rw [hW12, hyc]
        exact ⟨h1.alloc h1.size _, h2.below ((Below.refl _ _).alloc (Nat.le_refl _) _), heap_alloc_new w11 _⟩
      obtain ⟨x0, x1, x2, xl⟩ := HB12.out.2.1.cells
      obtain ⟨y0, y1, y2', yl⟩ := HB12.out.2.2.cells
      obtain ⟨p0, p1, p2, pl⟩ := (HB8.out.2.1.below HB12.out.1).cells
      obtain ⟨q0, q1, q2, ql⟩ := (HB8.out.2.2.below HB12.out.1).cells
      have HE : Hid (Below w.heap.size w W12) := HB8.out.1.trans (HB12.out.1.mono HB8.out.1.size)
      have HRN2 := Lib.hid (HRN.out W12 HB12.out.1)
      clear hb11
      subst hyc hW12
      have hkk : (k.toList == k.toList) = true := by simp
      have hvv : (v.toList == v.toList) = true := by simp
      have hm8 : (m : Int) ≤ 128 := by omega
      by_cases hko : o = k
      · have hok : (o.toList == k.toList) = true := by rw [hko]; simp
        clear hko HYY
        cases is with
        | true =>
          have HJN2 : Hid ((joinE F [newE F k v]).length = m) := HJN.out
          go_wp2_with fail
          refine HRN2.out.mono ?_
          rintro e w13 ⟨u, rfl, hrow, hb13⟩
          obtain ⟨ra2, rc2, rfl, _⟩ := row_form hrow
          have HE2 := Lib.hid (HE.out.trans (hb13.mono HE.out.size))
          rw [HJN2.out]
          clear hrow hb13
          go_wp2_with fail
          go_ret
          exact ⟨rfl, HE2.out⟩
        | false =>
          have HJN2 : Hid ((joinE F [newE F k v]).length = m + 1) := HJN.out
          go_wp2_with fail
          refine HRN2.out.mono ?_
          rintro e w13 ⟨u, rfl, hrow, hb13⟩
          obtain ⟨ra2, rc2, rfl, _⟩ := row_form hrow
          have HE2 := Lib.hid (HE.out.trans (hb13.mono HE.out.size))
          rw [HJN2.out]
          clear hrow hb13
          go_wp2_with fail
          go_ret
          exact ⟨rfl, HE2.out⟩
      · have hok : (o.toList == k.toList) = false := key_ne hko
        obtain ⟨e1, e2⟩ : y2 = y ∧ iy2 = iy := HYY.out.resolve_left hko
        subst e1 e2
        clear hko HYY
        cases is with
        | true =>
          have HJN2 : Hid ((joinE F [newE F k v]).length = m) := HJN.out
          go_wp2_with fail
          refine HRN2.out.mono ?_
          rintro e w13 ⟨u, rfl, hrow, hb13⟩
          obtain ⟨ra2, rc2, rfl, _⟩ := row_form hrow
          have HE2 := Lib.hid (HE.out.trans (hb13.mono HE.out.size))
          rw [HJN2.out]
          clear hrow hb13
          go_wp2_with fail
          go_ret
          exact ⟨rfl, HE2.out⟩
        | false =>
          have HJN2 : Hid ((joinE F [newE F k v]).length = m + 1) := HJN.out
          go_wp2_with fail
          refine HRN2.out.mono ?_
          rintro e w13 ⟨u, rfl, hrow, hb13⟩
          obtain ⟨ra2, rc2, rfl, _⟩ := row_form hrow
          have HE2 := Lib.hid (HE.out.trans (hb13.mono HE.out.size))
          rw [HJN2.out]
          clear hrow hb13
          go_wp2_with fail
          go_ret
          exact ⟨rfl, HE2.out⟩
end Go.Proofs.Ytopmbphdkohbmaa
