/- A store: entries stand in order, whatever is put and laid. -/
import Derived.Test.YtopmbphdkohbmaaSlaw3
namespace Go.Proofs.Ytopmbphdkohbmaa
open Go.RowKit Go.My Go.Deep
structure OpS where
  what : Int
  key : ByteArray
  value : ByteArray
  l : List Ent
def OpOf (w : World) (cs : List Value) (o : OpS) : Prop := ∃ a cap, cs = [.int .i64 o.what, .string o.key, .string o.value, .slice a o.l.length cap] ∧ SrcAny w a cap o.l ∧ Good o.l
theorem OpOf.below {w w' : World} {cs : List Value} {o : OpS} (h : OpOf w cs o) (hb : Below w.heap.size w w') : OpOf w' cs o := by
  obtain ⟨a, cap, h1, h2, h3⟩ := h
  exact ⟨a, cap, h1, h2.below hb, h3⟩
section
variable {H : Type} {enc : TypeId × Value → H} {w : World} {base : Nat} {spare : Nat → Bool} {held : Bool}
theorem open_ops {fuel len cap : Nat} {a : Option Addr} {x : DataW H × List MemPlace} (h : DataW.trod enc Try.prog w base spare held fuel 37 [.slice a len cap] = some x) (hx : Within Try.prog 37 x.1) :
    ∃ Z : List OpS, Z.length = len ∧ ListAt w a 4 OpOf Z ∧ (Z.length : Int) ≤ 70368744177664 := by
  obtain ⟨Z, h1, _, _, h2, h3⟩ := open_listB (R := OpOf) (c := 4) Try.underlying37 (by kernel_rfl) (by omega) (fun n cs d hl hd hw => by
    obtain ⟨v0, v1, v2, v3, rfl⟩ : ∃ a b c d, cs = [a, b, c, d] := by
      match cs, hl with
      | [a, b, c, d], _ => exact ⟨a, b, c, d, rfl⟩
    have hone : oneCellFields Try.prog (Try.prog.fieldsOf 40) = true := by kernel_rfl
    have hfs : Try.prog.underlying 40 = some (.struct (Try.prog.fieldsOf 40)) := by kernel_rfl
    obtain ⟨z0, rfl, _⟩ := field_int hfs hone hd 0 _ v0 rfl rfl Try.underlying3
    obtain ⟨z1, rfl, _⟩ := field_string hfs hone hd 1 _ v1 rfl rfl Try.underlying9
    obtain ⟨z2, rfl, _⟩ := field_string hfs hone hd 2 _ v2 rfl rfl Try.underlying9
    obtain ⟨n3, y3, g3, k3⟩ := open_fieldB hfs hone hd hw 3 _ v3 rfl rfl
    obtain ⟨wa, wc, ws, rfl, q1, q2⟩ := open_entsV g3 k3
    exact ⟨⟨z0, z1, z2, ws⟩, wa, wc, rfl, q1, q2⟩) h hx
  have hb : Try.prog.bytesOf 40 = 64 := by kernel_rfl
  rw [hb] at h2
  unfold reachBytes at h2
  exact ⟨Z, h1, h3, by omega⟩
end
def SomeB (w : World) (e : Ending) (w' : World) : Prop := ∃ g : Bool, e = .returned (.bool g) ∧ w' = w
set_option maxRecDepth 100000 in
set_option maxHeartbeats 1600000 in
theorem great_15 (a : Option Addr) (cap n : Nat) (Z : List OpS) (w : World) (h : ListAt w a 4 OpOf Z) (hn : n = Z.length) (hg : (n : Int) ≤ 70368744177664) : Calls Try.prog 15 #[.slice a n cap] w (SomeB w) := by
  have H := Lib.hid h
  have HN := Lib.hid hn
  clear h hn
  go_enter Try.func15, Try.ntmps15
  go_wp2_with fail
  go_loopw [3, 4] (fun x y wr => wr = w ∧ ∃ c m : Nat, x = .int .i64 c ∧ y = .int .i64 m ∧ c ≤ 4010 ∧ m ≤ n) (fun _ y _ => n - (intOf y).toNat)
  case atStart => exact ⟨rfl, 0, 0, rfl, rfl, by omega, by omega⟩
  case round =>
    obtain ⟨ew, c, m, rfl, rfl, hc, hm⟩ := hrel
    obtain rfl : w = wr := ew.symm
    by_cases hlt : m < n
    · have hlt1 : (m : Int) < (n : Int) := by omega
      have hm0 : (0 : Int) ≤ (m : Int) := by omega
      have hc9 : (c : Int) ≤ 4010 := by omega
      by_cases hcc : (c : Int) < 2000
      · obtain ⟨o, ho⟩ : ∃ o, Z[m]? = some o := ⟨_, List.getElem?_eq_getElem (by rw [← HN.out]; exact hlt)⟩
        obtain ⟨b, off, cs, rfl, hb, _, hcs, a3, c3, rfl, _, hgd⟩ := H.out m o ho
        have d3 : w.cell? ⟨b, off + m * 4 + 3, none⟩ = some (.slice a3 o.l.length c3) := hcs 3 _ rfl
        have hol : (o.l.length : Int) ≤ 70368744177664 := hgd.1
        generalize o.l.length = q at d3 hol
        clear ho hcs hgd
        by_cases hq : (q : Int) < 2000
        · have hmin : min (q : Int) 2000 = q := by omega
          go_wp2_with fail
          exact ⟨⟨trivial, c + 10 + q, m + 1, by simp, by simp, by omega, by omega⟩, by simp [intOf]; omega⟩
        · have hmin : min (q : Int) 2000 = 2000 := by omega
          go_wp2_with fail
          exact ⟨⟨trivial, c + 10 + 2000, m + 1, by simp, by simp, by omega, by omega⟩, by simp [intOf]; omega⟩
      · go_wp2_with fail
        go_ret
        exact ⟨_, rfl, rfl⟩
    · obtain rfl : m = n := by omega
      go_wp2_with fail
      go_ret
      exact ⟨_, rfl, rfl⟩
theorem maxOf {e : Ent} (h : fitE e = true) : e.key.size ≤ maxLen ∧ e.value.size ≤ maxLen := by
  unfold fitE at h
  simp only [Bool.and_eq_true, decide_eq_true_eq] at h
  unfold maxLen
  omega
/-- whatever a call leaves, it is a store still -/
def StillS (w : World) (p : Nat) (e : Ending) (w' : World) : Prop := ∃ v, e = .returned v ∧ Wrote [p] w w' ∧ ∃ a cap L, StoreAt w' p a cap L ∧ OfOK L
theorem put_still {w : World} {p : Nat} {L : List Ent} {k v : ByteArray} {e : Ending} {w' : World} (hok : OfOK L) (h : PutLeft w p L k v e w') : StillS w p e w' := by
  obtain ⟨h1, h2⟩ := h
  rcases h2 with ⟨_, rfl, a, cap, h⟩ | ⟨_, _, rfl, a, cap, h⟩ | ⟨hb, hf, rfl, a, cap, h, hs⟩
  · exact ⟨_, rfl, h1, a, cap, L, h, hok⟩
  · exact ⟨_, rfl, h1, a, cap, L, h, hok⟩
  · exact ⟨_, rfl, h1, a, cap, _, ⟨h, hs, (ok_put hok hb hf).up⟩, ok_put hok hb hf⟩
theorem lay_still {w : World} {p : Nat} {L M : List Ent} {e : Ending} {w' : World} (hok : OfOK L) (h : LayLeft w p L M e w') : StillS w p e w' := by
  obtain ⟨h1, h2⟩ := h
  rcases h2 with ⟨_, rfl, a, cap, h⟩ | ⟨_, _, rfl, a, cap, h⟩ | ⟨hb, hf, rfl, a, cap, h, hs⟩
  · exact ⟨_, rfl, h1, a, cap, L, h, hok⟩
  · exact ⟨_, rfl, h1, a, cap, L, h, hok⟩
  · exact ⟨_, rfl, h1, a, cap, _, ⟨h, hs, (ok_join hok hb hf).up⟩, ok_join hok hb hf⟩
set_option maxRecDepth 100000 in
set_option maxHeartbeats 3200000 in
theorem order_any (a a1 : Option Addr) (n cap n1 cap1 : Nat) (F : List Ent) (Z : List OpS) (w : World) (ha : AskS w a n cap F) (hz : ListAt w a1 4 OpOf Z) (hn1 : n1 = Z.length) (hg1 : (n1 : Int) ≤ 70368744177664) :
    Calls Try.prog 5 #[.slice a n cap, .slice a1 n1 cap1] w fun e w' => e = .returned (.bool true) ∧ Below w.heap.size w w' := by
  have HA := Lib.hid ha
  have HZ := Lib.hid hz
  have HN1 := Lib.hid hn1
  have HH := Lib.hid (head_8 w)
  clear ha hz hn1
  go_enter Try.func5, Try.ntmps5
  go_wp2_with fail
  refine HH.out.mono ?_
  rintro e w1 ⟨rfl, hb1⟩
  have HB1 := Lib.hid hb1
  have HO := Lib.hid (HA.out.of9 w1 hb1)
  clear hb1
  go_wp2_with fail
  refine HO.out.mono ?_
  rintro e w2 ⟨hb2, hof⟩
  have HB2 := Lib.hid (HB1.out.trans (hb2.mono HB1.out.size))
  rcases hof with ⟨rfl, _⟩ | ⟨p, a', cap', rfl, hok, hp, hcell, hsrc⟩
  · clear hb2
    go_wp2_with fail
    go_ret
    exact ⟨rfl, HB2.out⟩
  · have HP : Hid (w.heap.size ≤ p) := Nat.le_trans HB1.out.size hp
    have HOK := Lib.hid hok
    have HS : Hid (StoreAt w2 p a' cap' F) := ⟨hcell, hsrc, hok.up⟩
    have HFW : Hid (F.length ≤ 128) := hok.few
    have HG := Lib.hid (HA.out.gr10 w2)
    have hgr := few_great hok.few
    rw [← HA.out.len] at hgr
    rw [hgr] at HG
    have HG5 := Lib.hid (great_15 a1 cap1 n1 Z w2 (fun i x hi => by
      obtain ⟨b, off, cs, h1, h2, h3, h4, h5⟩ := HZ.out i x hi
      exact ⟨b, off, cs, h1, Nat.lt_of_lt_of_le h2 HB2.out.size, h3, fun j v hv => (HB2.out.cell (p := ⟨b, _, none⟩) h2).trans (h4 j v hv), h5.below HB2.out⟩) HN1.out hg1)
    clear hb2 hok hp hcell hsrc hgr
    go_wp2_with fail
    refine HG.out.mono ?_
    rintro e w' ⟨rfl, hw⟩
    obtain rfl : w2 = w' := hw.symm
    go_wp2_with fail
    refine HG5.out.mono ?_
    rintro e w' ⟨g, rfl, hw⟩
    obtain rfl : w2 = w' := hw.symm
    cases g with
    | true =>
      go_wp2_with fail
      go_ret
      exact ⟨rfl, HB2.out⟩
    | false =>
      have P0 : Hid (Below w.heap.size w w2 ∧ ∃ a cap L, StoreAt w2 p a cap L ∧ OfOK L) := ⟨HB2.out, a', cap', F, HS.out, HOK.out⟩
      go_wp2_with fail
      go_loopw [7] (fun x wr => ∃ m : Nat, x = .int .i64 m ∧ m ≤ n1 ∧ Hid (Below w.heap.size w wr ∧ ∃ a cap L, StoreAt wr p a cap L ∧ OfOK L)) (fun x _ => n1 - (intOf x).toNat)
      case atStart => exact ⟨0, rfl, by omega, P0⟩
      case round =>
        obtain ⟨m, rfl, hm, HL⟩ := hrel
        by_cases hlt : m < n1
        · obtain ⟨o, ho⟩ : ∃ o, Z[m]? = some o := ⟨_, List.getElem?_eq_getElem (by rw [← HN1.out]; exact hlt)⟩
          obtain ⟨b, off, cs, rfl, hb, _, hcs, a3, c3, rfl, hsr, hgd⟩ := HZ.out m o ho
          have hbw := HL.out.1
          have hc2 : ∀ j v, #[Value.int .i64 o.what, .string o.key, .string o.value, .slice a3 o.l.length c3].toList[j]? = some v → wr.cell? ⟨b, off + m * 4 + j, none⟩ = some v := fun j v hv => (hbw.cell (p := ⟨b, _, none⟩) hb).trans (hcs j v (by simpa using hv))
          have d0 : wr.cell? ⟨b, off + m * 4, none⟩ = some (.int .i64 o.what) := hc2 0 _ rfl
          have d1 : wr.cell? ⟨b, off + m * 4 + 1, none⟩ = some (.string o.key) := hc2 1 _ rfl
          have d2 : wr.cell? ⟨b, off + m * 4 + 2, none⟩ = some (.string o.value) := hc2 2 _ rfl
          have d3 : wr.cell? ⟨b, off + m * 4 + 3, none⟩ = some (.slice a3 o.l.length c3) := hc2 3 _ rfl
          obtain ⟨sa, sc, L, hst, hok⟩ := HL.out.2
          have HST := Lib.hid hst
          have HOL := Lib.hid hok
          have HPUT : Hid (∀ n, Calls Try.prog 13 #[.pointer (some ⟨p, 0, none⟩), .string o.key, .string o.value] (wr.drewN n) (StillS wr p)) := fun n => by
            have hbd : Below wr.heap.size wr (wr.drewN n) := ⟨rfl, rfl, rfl, by simp, fun _ _ => rfl⟩
            refine (put_13 p sa sc L o.key o.value (wr.drewN n) (HST.out.below hbd) (by have := HOL.out.few; omega) (ok_pos HOL.out)).mono fun e w' h => ?_
            obtain ⟨v, h1, h2, h3⟩ := put_still HOL.out h
            exact ⟨v, h1, ((Wrote.refl [p] wr).drewN n).trans h2, h3⟩
          have HLAY : Hid (Calls Try.prog 16 #[.pointer (some ⟨p, 0, none⟩), .slice a3 o.l.length c3] wr (StillS wr p)) := (lay_16 p sa a3 sc c3 L o.l wr HST.out (by have := HOL.out.few; omega) (hsr.below hbw) hgd.1 hgd.2).mono fun e w' h => lay_still HOL.out h
          have hm1 : (m : Int) < (n1 : Int) := by omega
          have hm0 : (0 : Int) ≤ (m : Int) := by omega
          clear ho hcs hsr hgd hst hok hc2
          cases tb : (bits BinOp.and IntKind.i64 o.what 1 == 0) with
          | true =>
            go_wp2_with fail
            refine wp_region_tail 11 (by kernel_rfl) (by kernel_rfl) ?_
            simp only [List.take_succ_cons, List.take_zero]
            repeat still_step
            refine wpStill_nil ?_
            go_wp2_with (go_at_call 13; refine (HPUT.out 1).mono ?_)
            rintro e w3 ⟨rv, rfl, hwr, a9, c9, L9, hs9, hok9⟩
            have HB3 : Hid (Below w.heap.size w w3) := hbw.trans (hwr.below hbw.size fun g hg => (by simpa using hg : g = p) ▸ HP.out)
            have HR : Hid (Calls Try.prog 12 #[.pointer (some ⟨p, 0, none⟩), .string ⟨#[]⟩, .string ⟨#[]⟩] w3 (JoinLeft w3 L9)) := by
              have h := range_12 p a9 c9 L9 ⟨#[]⟩ ⟨#[]⟩ w3 hs9 (by have := hok9.few; omega)
              rw [all_all] at h
              exact h
            have HS9 := Lib.hid hs9
            have HOK9 := Lib.hid hok9
            clear hwr hs9 hok9
            go_wp2_with fail
            refine HR.out.mono ?_
            rintro e w4 ⟨u, rfl, hrow, hb4⟩
            obtain ⟨ra, rc, rfl, _⟩ := row_form hrow
            have HB4 : Hid (Below w.heap.size w w4 ∧ StoreAt w4 p a9 c9 L9 ∧ SrcAny w4 ra rc L9) := ⟨HB3.out.trans (hb4.mono HB3.out.size), HS9.out.below hb4, (row_src hrow rfl).any⟩
            have HO9 : Hid (Calls Try.prog 9 #[.slice ra L9.length rc] w4 (OfLeft w4 L9)) := of_9 ra rc L9 w4 HB4.out.2.2 (by have := HOK9.out.few; omega) (fun e he => maxOf (HOK9.out.fit e he))
            obtain ⟨q, hq⟩ : ∃ q, q = L9.length := ⟨_, rfl⟩
            have hq9 : q ≤ 128 := by rw [hq]; exact HOK9.out.few
            rw [← hq] at HO9 ⊢
            have hq8 : (q : Int) ≤ 128 := by omega
            clear hrow hb4 hq
            go_wp2_with fail
            refine HO9.out.mono ?_
            rintro e w5 ⟨hb5, hof⟩
            rcases hof with ⟨_, hno⟩ | ⟨p9, _, _, rfl, _⟩
            · exact absurd HOK9.out hno
            · have HB5 : Hid (Below w.heap.size w w5 ∧ ∃ a cap L, StoreAt w5 p a cap L ∧ OfOK L) := ⟨HB4.out.1.trans (hb5.mono HB4.out.1.size), a9, c9, L9, HB4.out.2.1.below hb5, HOK9.out⟩
              clear hb5
              go_wp2_with fail
              exact ⟨⟨m + 1, by simp, by omega, HB5.out⟩, by simp [intOf]; omega⟩
          | false =>
            go_wp2_with fail
            refine HLAY.out.mono ?_
            rintro e w3 ⟨rv, rfl, hwr, a9, c9, L9, hs9, hok9⟩
            have HB3 : Hid (Below w.heap.size w w3) := hbw.trans (hwr.below hbw.size fun g hg => (by simpa using hg : g = p) ▸ HP.out)
            have HR : Hid (Calls Try.prog 12 #[.pointer (some ⟨p, 0, none⟩), .string ⟨#[]⟩, .string ⟨#[]⟩] w3 (JoinLeft w3 L9)) := by
              have h := range_12 p a9 c9 L9 ⟨#[]⟩ ⟨#[]⟩ w3 hs9 (by have := hok9.few; omega)
              rw [all_all] at h
              exact h
            have HS9 := Lib.hid hs9
            have HOK9 := Lib.hid hok9
            clear hwr hs9 hok9
            go_wp2_with fail
            refine HR.out.mono ?_
            rintro e w4 ⟨u, rfl, hrow, hb4⟩
            obtain ⟨ra, rc, rfl, _⟩ := row_form hrow
            have HB4 : Hid (Below w.heap.size w w4 ∧ StoreAt w4 p a9 c9 L9 ∧ SrcAny w4 ra rc L9) := ⟨HB3.out.trans (hb4.mono HB3.out.size), HS9.out.below hb4, (row_src hrow rfl).any⟩
            have HO9 : Hid (Calls Try.prog 9 #[.slice ra L9.length rc] w4 (OfLeft w4 L9)) := of_9 ra rc L9 w4 HB4.out.2.2 (by have := HOK9.out.few; omega) (fun e he => maxOf (HOK9.out.fit e he))
            obtain ⟨q, hq⟩ : ∃ q, q = L9.length := ⟨_, rfl⟩
            have hq9 : q ≤ 128 := by rw [hq]; exact HOK9.out.few
            rw [← hq] at HO9 ⊢
            have hq8 : (q : Int) ≤ 128 := by omega
            clear hrow hb4 hq
            go_wp2_with fail
            refine HO9.out.mono ?_
            rintro e w5 ⟨hb5, hof⟩
            rcases hof with ⟨_, hno⟩ | ⟨p9, _, _, rfl, _⟩
            · exact absurd HOK9.out hno
            · have HB5 : Hid (Below w.heap.size w w5 ∧ ∃ a cap L, StoreAt w5 p a cap L ∧ OfOK L) := ⟨HB4.out.1.trans (hb5.mono HB4.out.1.size), a9, c9, L9, HB4.out.2.1.below hb5, HOK9.out⟩
              clear hb5
              go_wp2_with fail
              exact ⟨⟨m + 1, by simp, by omega, HB5.out⟩, by simp [intOf]; omega⟩
        · obtain rfl : m = n1 := by omega
          go_wp2_with fail
          go_ret
          exact ⟨rfl, HL.out.1⟩
end Go.Proofs.Ytopmbphdkohbmaa
