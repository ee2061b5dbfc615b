/- BookTells: the walk. -/
import Derived.Test.YtmpbeopbkllcnaaDoorBkPlay
import Derived.Test.YtmpbeopbkllcnaaDoorHnd
import Derived.Test.YtmpbeopbkllcnaaDoorGenl
import Derived.Deep.RegionWith
import Derived.Deep.RegionHeld3
import Derived.Deep.DeepCutAuto
namespace Go.Proofs.YtmpbeopbkllcnaaDoor.Book
open Go.RowKit Go.My Go.Deep

def bookW : ByteArray := ⟨#[98, 111, 111, 107]⟩
theorem wrap_err (n c : Int) : wrapV n c = errOf c [(bookW, n)] := rfl
theorem rb_cell {w W : World} {base b m d : Nat} {ts : List ByteArray} (h : BkSt w base b m d ts W) : ∃ a c, W.cell? ⟨d, 0, none⟩ = some (.slice a ts.length c) ∧ d < W.heap.size := by
  obtain ⟨v, h2⟩ := h.doc
  obtain ⟨vs, hr, _⟩ := h2.row
  obtain ⟨a, c, rfl, -⟩ := row_form hr
  exact ⟨a, c, h2.c0, lt_of_heap h2.blk⟩
theorem in_cell {w W : World} {base b m d g n : Nat} {tb ts : List ByteArray} (h : BkIn w base b m d g n tb ts W) : ∃ a c, W.cell? ⟨d, 0, none⟩ = some (.slice a ts.length c) ∧ d < W.heap.size := by
  obtain ⟨v, h2⟩ := h.doc
  obtain ⟨vs, hr, _⟩ := h2.row
  obtain ⟨a, c, rfl, -⟩ := row_form hr
  exact ⟨a, c, h2.c0, lt_of_heap h2.blk⟩
structure TsOk (ts : List ByteArray) : Prop where
  nodup : ts.Nodup
  small : ∀ t ∈ ts, t.size ≤ 65536
theorem TsOk.asked {ts : List ByteArray} {s : ByteArray} (h : TsOk ts) (hs : s.size ≤ 65536) : TsOk (asked ts s) := by
  refine ⟨(asked_ok s h.nodup).1, fun t ht => ?_⟩
  unfold Book.asked at ht
  split at ht
  · exact h.small t ht
  · rcases List.mem_append.1 ht with ht | ht
    · exact h.small t ht
    · obtain rfl : t = s := by simpa using ht
      exact hs
theorem trailN (n : Int) (s : StepT) (W : World) (hg : TypeIs W) : Calls Tryd.prog 12 #[errOf n [s]] W fun e w' => ∃ ra rc, e = .returned (.slice ra 1 rc) ∧ Lies w' ra 2 stepL [s] ∧ Below W.heap.size W w' := by
  refine (trail_of n [s] W hg (by simp)).mono ?_
  rintro e w' ⟨u, rfl, hrow, hb⟩
  obtain ⟨ra, rc, rfl, -⟩ := row_form hrow
  exact ⟨ra, rc, rfl, row_lies (n := 1) hrow (fun _ => rfl) rfl, hb⟩
set_option maxRecDepth 100000 in
set_option maxHeartbeats 8000000 in
theorem tells_4 (a : Option Addr) (cap : Nat) (l : List ByteArray) (c : Option Addr) (cc : Nat) (ks : List Int) (w : World) (hg : TypeIs w) (ha : ListAt w a 1 RowB l) (hm : l.length ≤ maxLen) (hk : ListAt w c 1 IntB ks) (hkm : ks.length ≤ maxLen) :
    Calls Tryd.prog 4 #[.slice a l.length cap, .slice c ks.length cc] w fun e w' => e = .returned (.bool true) ∧ Below w.heap.size w w' := by
  have HH := Lib.hid (head_any w)
  have HG := Lib.hid hg
  have HA := Lib.hid ha
  have HK := Lib.hid hk
  have HGR : Hid (∀ W, Below w.heap.size w W → Calls Tryd.prog 20 #[.slice a l.length cap] W (GreatLeft W l)) := fun W hW => great_any a l cap W w ha hW hm
  obtain ⟨n, hn⟩ : ∃ n, n = l.length := ⟨_, rfl⟩
  obtain ⟨kn, hkn⟩ : ∃ n, n = ks.length := ⟨_, rfl⟩
  have HN := Lib.hid hn
  have HKN := Lib.hid hkn
  rw [← hn] at HGR hm ⊢
  rw [← hkn] at hkm ⊢
  unfold maxLen at hm hkm
  clear hg ha hk hn hkn
  go_enter Tryd.func4, Tryd.ntmps4
  go_wp2_with fail
  refine HH.out.mono ?_
  rintro e w1 ⟨rfl, hb⟩
  have HB1 := Lib.hid hb
  clear hb
  go_wp2_with fail
  refine (HGR.out _ HB1.out).mono ?_
  rintro e w1' ⟨gr, rfl, hgr, rfl⟩
  cases gr with
  | true =>
    clear hgr
    go_wp2_with fail
    go_ret
    exact ⟨rfl, HB1.out⟩
  | false =>
    obtain ⟨hl, hsz⟩ := hgr rfl
    have HSZ := Lib.hid hsz
    rw [← HN.out] at hl
    clear hgr hsz
    by_cases hk300 : (300 : Int) < (kn : Int)
    · go_wp2_with fail
      go_ret
      exact ⟨rfl, HB1.out⟩
    go_wp2_with fail
    refine (new_any _).mono ?_
    rintro e w2 ⟨b, m, v, rfl, hbk, hb⟩
    have P0 : Hid (BkSt w w1.heap.size b m w2.heap.size [] (w2.alloc (.cells #[.slice none 0 0] 55))) :=
      ⟨⟨v, hbk.below (bl_alloc _ _)⟩, ⟨.slice none 0 0, heap_alloc_new w2 _, ⟨[], World.ownsRow_nil _ _ _ _, fun i s hi => by simp at hi⟩, hb.size⟩, (HB1.out.trans (hb.mono HB1.out.size)).trans ((bl_alloc _ _).mono (Nat.le_trans HB1.out.size hb.size)), HB1.out.size, by simp; have := hb.size; omega⟩
    obtain ⟨w3, hw3⟩ : ∃ z, z = w2.alloc (.cells #[.slice none 0 0] 55) := ⟨_, rfl⟩
    obtain ⟨d, hd⟩ : ∃ z, z = w2.heap.size := ⟨_, rfl⟩
    obtain ⟨base, hbase⟩ : ∃ z, z = w1.heap.size := ⟨_, rfl⟩
    rw [← hw3, ← hd, ← hbase] at P0
    have P1 : Hid (∃ ts : List ByteArray, TsOk ts ∧ ts.length ≤ 0 ∧ BkSt w base b m d ts w3) := ⟨[], ⟨by simp, by simp⟩, Nat.le_refl _, P0.out⟩
    clear hbk hb hbase P0
    go_upto_region 6 with fail
    rw [← hw3, ← hd]
    clear hw3 hd
    go_wp2_with fail
    go_loopw [8] (fun i wr => ∃ j : Nat, j ≤ n ∧ i = .int .i64 j ∧ Hid (∃ ts : List ByteArray, TsOk ts ∧ ts.length ≤ j ∧ BkSt w base b m d ts wr)) (fun i _ => n - (intOf i).toNat)
    case atStart => exact ⟨0, by omega, rfl, P1⟩
    case round =>
      clear P1
      obtain ⟨j, hj, rfl, ts, hnd, htl, hst⟩ := hrel
      have HND := Lib.hid hnd
      have HTL := Lib.hid htl
      have HST := Lib.hid hst
      clear hnd htl hst
      by_cases hlt : j < n
      · obtain ⟨s, hs⟩ : ∃ x, l[j]? = some x := ⟨_, List.getElem?_eq_getElem (by rw [← HN.out]; exact hlt)⟩
        have HS3 := Lib.hid (HSZ.out s (List.mem_of_getElem? hs))
        obtain ⟨ab, off, sa, scap, rfl, hbl, d0, hsm, hsrc⟩ := row_at HA.out hs
        have HSRC : Hid (∀ W, Below w.heap.size w W → BSrc W sa scap s) := fun W hW => hsrc.below hW
        have HC : Hid (∀ W, Below w.heap.size w W → W.cell? ⟨ab, off + j, none⟩ = some (.slice sa s.size scap)) := fun W hW => (hW.cell (p := ⟨ab, off + j, none⟩) hbl).trans d0
        have HAL : Hid (∀ o, Below w.heap.size w (wr.alloc o)) := fun o => HST.out.below.trans ((bl_alloc _ _).mono HST.out.below.size)
        have c0 : ∀ o, (wr.alloc o).cell? ⟨ab, off + j, none⟩ = some (.slice sa s.size scap) := fun o => HC.out _ (HAL.out o)
        have hj0 : (0 : Int) ≤ (j : Int) := by omega
        have hj1 : (j : Int) < (n : Int) := by omega
        clear hs d0 hsm hsrc hbl
        go_wp2_with (at_builtin; refine wpList_append_b rfl _ _ rfl wr.heap.size wr.heap.size rfl (heap_alloc_new wr _) (Nat.le_refl _) sa scap s rfl (HSRC.out _ (HAL.out _)) (by have := HS3.out; omega) (by simp) ?_)
        intro g cap1 w5 hown hgrow
        have hb5 : Below wr.heap.size wr w5 := (((Wrote.refl [wr.heap.size] wr).alloc (.cells #[] 5)).trans (Wrote.of_grown (row := some wr.heap.size) hgrow)).below (Nat.le_refl _) (by simp)
        have HI5 := Lib.hid (HST.out.into hb5 hown rfl)
        have HOB := Lib.hid (row_bytes hown)
        obtain ⟨ad, cd, k0, kl⟩ := in_cell HI5.out
        have HQ : Hid (ts.length ≤ 1000) := by have := HTL.out; show _ ≤ _; omega
        have HTD : Hid (∀ W, Below w.heap.size w W → TypeIs W) := fun W hW => HG.out.below HG.out.lt hW
        clear hown hgrow hb5 c0
        have c0 := HC.out _ HI5.out.below
        obtain ⟨tn, htn⟩ : ∃ z, z = ts.length := ⟨_, rfl⟩
        have HTN := Lib.hid htn
        rw [← htn] at k0
        rcases Nat.lt_or_ge 65536 s.size with hbig | hsmall
        · have HD := Lib.hid (in_dig_long HI5.out (some ⟨g, 0, none⟩) s.size cap1 hbig)
          have HRD : Hid (∀ W, BkIn w base b m d g s.size ts ts W → Calls Tryd.prog 23 #[.pointer (some ⟨d, 0, none⟩), .slice sa s.size scap] W fun e W' => e = .returned (.tuple #[.int .i64 (-1), .int .i64 2]) ∧ BkIn w base b m d g s.size ts ts W') := fun W hW => in_rdig_long hW sa s.size scap hbig
          have HCD : Hid (∀ W, Below w.heap.size w W → Calls Tryd.prog 10 #[errOf 2 [(bookW, (tn : Int))]] W fun e w' => e = .returned (.int .i64 2) ∧ Below W.heap.size W w') := fun W hW => code_of 2 _ W (HTD.out W hW)
          have HTR : Hid (∀ W, Below w.heap.size w W → Calls Tryd.prog 12 #[errOf 2 [(bookW, (tn : Int))]] W fun e w' => ∃ ra rc, e = .returned (.slice ra 1 rc) ∧ Lies w' ra 2 stepL [(bookW, (tn : Int))] ∧ Below W.heap.size W w') := fun W hW => trailN 2 _ W (HTD.out W hW)
          rw [wrap_err, ← HTN.out] at HD
          obtain ⟨T, ev, hE⟩ := errOf_form 2 [(bookW, (tn : Int))]
          rw [hE] at HD HCD HTR
          have hsm9 : (65536 : Int) < (s.size : Int) := by omega
          have hsm8 : (s.size : Int) < 300000 := by have := HS3.out; omega
          obtain ⟨z, hz⟩ : ∃ z, z = s.size := ⟨_, rfl⟩
          have HZ := Lib.hid hz
          rw [← hz] at HD HRD HC c0 hsm9 hsm8 ⊢
          clear hbig hz hE htn
          go_wp2_with fail
          refine HD.out.mono ?_
          rintro e w6 ⟨rfl, hi6⟩
          have HI6 := Lib.hid hi6
          clear k0 kl c0 hi6 HD
          have c0 := HC.out _ HI6.out.below
          have HRD6 := Lib.hid (HRD.out _ HI6.out)
          go_wp2_with fail
          refine HRD6.out.mono ?_
          rintro e w7 ⟨rfl, hi7⟩
          have P7 : Hid (BkIn w base b m d g z ts ts w7) := hi7
          clear c0 hi7 HRD HRD6 HI6 HI5 HOB
          go_wp2_with fail
          go_loopw [15] (fun i wq => ∃ k : Nat, k ≤ z ∧ i = .int .i64 k ∧ Hid (BkIn w base b m d g z ts ts wq)) (fun i _ => z - (intOf i).toNat)
          case atStart => exact ⟨0, by omega, rfl, P7⟩
          case round =>
            as_aux_lemma =>
              clear P7
              obtain ⟨k, hkz, rfl, HIK⟩ := hrel
              by_cases hlk : k < z
              · obtain ⟨y, y0, y1⟩ := HIK.out.own.at hlk
                have hk0 : (0 : Int) ≤ (k : Int) := by omega
                have hk1 : (k : Int) < (z : Int) := by omega
                have HSET := Lib.hid (fun u => HIK.out.set k u)
                go_wp2_with fail
                exact ⟨⟨k + 1, by omega, by simp, HSET.out _⟩, by simp [intOf]; omega⟩
              · obtain rfl : k = z := by omega
                have HCD1 := Lib.hid (HCD.out wr HIK.out.below)
                go_wp2_with fail
                refine HCD1.out.mono ?_
                rintro e w8 ⟨rfl, hb⟩
                have HI8 := Lib.hid (HIK.out.keep hb)
                have HTR8 := Lib.hid (HTR.out w8 HI8.out.below)
                clear hb HCD1
                go_wp2_with fail
                refine HTR8.out.mono ?_
                rintro e w9 ⟨ra, rc, rfl, hli, hb⟩
                obtain ⟨w10, hw10⟩ : ∃ z, z = w9.alloc (.cells #[.string ⟨#[98, 111, 111, 107]⟩, .int .i64 (tn : Int)] 42) := ⟨_, rfl⟩
                obtain ⟨xb, hxb⟩ : ∃ z, z = w9.heap.size := ⟨_, rfl⟩
                have hb10 : Below w9.heap.size w9 w10 := by rw [hw10]; exact bl_alloc _ _
                have hst10 : Lies w10 (some ⟨xb, 0, none⟩) 2 stepL [(bookW, (tn : Int))] := by rw [hw10, hxb]; exact step_lies (heap_alloc_new w9 _)
                have HSM := Lib.hid (same_st ra (some ⟨xb, 0, none⟩) 1 rc 1 [(bookW, (tn : Int))] w10 (hli.below hb10) hst10 rfl (by decide))
                have HI10 := Lib.hid ((HI8.out.keep hb).keep hb10)
                clear hli hb hb10 hst10 HTR8
                go_wp2_with fail
                rw [← hw10, ← hxb]
                clear hw10 hxb
                refine HSM.out.mono ?_
                rintro e w11 ⟨rfl, hb⟩
                have HNX : Hid (∃ ts : List ByteArray, TsOk ts ∧ ts.length ≤ j + 1 ∧ BkSt w base b m d ts w11) := ⟨ts, HND.out, by have := HTL.out; omega, (HI10.out.keep hb).out⟩
                clear hb
                go_wp2_with fail
                exact ⟨⟨j + 1, by omega, by simp, HNX⟩, by simp [intOf]; omega⟩
        · have HD := Lib.hid (in_dig HI5.out HOB.out hsmall HQ.out cap1)
          have HASK := Lib.hid (asked_ok s HND.out.nodup)
          obtain ⟨p, hp⟩ : ∃ z, z = placeOf ts s := ⟨_, rfl⟩
          obtain ⟨ts2, hts2⟩ : ∃ z, z = asked ts s := ⟨_, rfl⟩
          have HRD : Hid (∀ W, BkIn w base b m d g s.size ts2 ts W → Calls Tryd.prog 23 #[.pointer (some ⟨d, 0, none⟩), .slice sa s.size scap] W fun e W' => e = .returned (.tuple #[.int .i64 (p : Int), .int .i64 0]) ∧ BkIn w base b m d g s.size ts2 ts2 W') := fun W hW => by
            rw [hp, hts2] at *
            exact in_rdig hW HND.out.nodup HQ.out sa scap hsmall (HSRC.out _ hW.below)
          rw [← hp, ← hts2] at HD
          rw [← hts2] at HASK
          have HN2 : Hid (TsOk ts2 ∧ ts2.length ≤ j + 1) := ⟨by rw [hts2]; exact HND.out.asked hsmall, by have := HASK.out.2.2.2.2; have := HTL.out; omega⟩
          clear hp hts2 HASK htn
          have hsm9 : (s.size : Int) ≤ 65536 := by omega
          obtain ⟨z, hz⟩ : ∃ z, z = s.size := ⟨_, rfl⟩
          have HZ := Lib.hid hz
          rw [← hz] at HD HRD HC c0 hsm9 ⊢
          clear hsmall hz
          go_wp2_with fail
          refine HD.out.mono ?_
          rintro e w6 ⟨rfl, hi6⟩
          have HI6 := Lib.hid hi6
          clear k0 kl c0 hi6 HD
          have c0 := HC.out _ HI6.out.below
          have HRD6 := Lib.hid (HRD.out _ HI6.out)
          go_wp2_with fail
          refine HRD6.out.mono ?_
          rintro e w7 ⟨rfl, hi7⟩
          have P7 : Hid (BkIn w base b m d g z ts2 ts2 w7) := hi7
          clear c0 hi7 HRD HRD6 HI6 HI5 HOB
          go_wp2_with fail
          go_loopw [15] (fun i wq => ∃ k : Nat, k ≤ z ∧ i = .int .i64 k ∧ Hid (BkIn w base b m d g z ts2 ts2 wq)) (fun i _ => z - (intOf i).toNat)
          case atStart => exact ⟨0, by omega, rfl, P7⟩
          case round =>
            as_aux_lemma =>
              clear P7
              obtain ⟨k, hkz, rfl, HIK⟩ := hrel
              by_cases hlk : k < z
              · obtain ⟨y, y0, y1⟩ := HIK.out.own.at hlk
                have hk0 : (0 : Int) ≤ (k : Int) := by omega
                have hk1 : (k : Int) < (z : Int) := by omega
                have HSET := Lib.hid (fun u => HIK.out.set k u)
                go_wp2_with fail
                exact ⟨⟨k + 1, by omega, by simp, HSET.out _⟩, by simp [intOf]; omega⟩
              · obtain rfl : k = z := by omega
                have HCD : Hid (∀ W, Below w.heap.size w W → Calls Tryd.prog 10 #[.nilIface] W fun e w' => e = .returned (.int .i64 0) ∧ Below W.heap.size W w') := fun W _ => code_nil W
                have HCD1 := Lib.hid (HCD.out wr HIK.out.below)
                have hpp : ((p : Int) == (p : Int)) = true := by simp
                go_wp2_with fail
                refine HCD1.out.mono ?_
                rintro e w8 ⟨rfl, hb⟩
                have HNX : Hid (∃ ts : List ByteArray, TsOk ts ∧ ts.length ≤ j + 1 ∧ BkSt w base b m d ts w8) := ⟨ts2, HN2.out.1, HN2.out.2, HIK.out.out.keep hb⟩
                clear hb
                go_wp2_with fail
                exact ⟨⟨j + 1, by omega, by simp, HNX⟩, by simp [intOf]; omega⟩
      · obtain rfl : j = n := by omega
        have P2 : Hid (BkSt w base b m d ts wr) := HST.out
        have HLT : Hid (ts.length ≤ 300) := by have := HTL.out; show _ ≤ _; omega
        clear HST
        go_wp2_with fail
        go_loopw [16] (fun i wr => ∃ k : Nat, k ≤ kn ∧ i = .int .i64 k ∧ Hid (BkSt w base b m d ts wr)) (fun i _ => kn - (intOf i).toNat)
        case atStart => exact ⟨0, by omega, rfl, P2⟩
        case round =>
          clear P2
          obtain ⟨k, hk, rfl, HST⟩ := hrel
          by_cases hlk : k < kn
          · obtain ⟨q, hq⟩ : ∃ x, ks[k]? = some x := ⟨_, List.getElem?_eq_getElem (by rw [← HKN.out]; exact hlk)⟩
            obtain ⟨ab, off, rfl, hbl, d0⟩ := ask_at HK.out hq
            have HC : Hid (∀ W, Below w.heap.size w W → W.cell? ⟨ab, off + k, none⟩ = some (.int .i64 q)) := fun W hW => (hW.cell (p := ⟨ab, off + k, none⟩) hbl).trans d0
            have c0 := HC.out _ HST.out.below
            have hk0 : (0 : Int) ≤ (k : Int) := by omega
            have hk1 : (k : Int) < (kn : Int) := by omega
            clear hq d0 hbl
            by_cases hno : q < 0 ∨ (ts.length : Int) ≤ q
            · obtain ⟨bv, hbv⟩ := HST.out.book
              have HD := Lib.hid (text_no hbv q hno)
              rw [wrap_err] at HD
              have HCD : Hid (∀ W, Below w.heap.size w W → Calls Tryd.prog 10 #[errOf 1 [(bookW, (ts.length : Int))]] W fun e w' => e = .returned (.int .i64 1) ∧ Below W.heap.size W w') := fun W hW => code_of 1 _ W (HG.out.below HG.out.lt hW)
              have HTR : Hid (∀ W, Below w.heap.size w W → Calls Tryd.prog 12 #[errOf 1 [(bookW, (ts.length : Int))]] W fun e w' => ∃ ra rc, e = .returned (.slice ra 1 rc) ∧ Lies w' ra 2 stepL [(bookW, (ts.length : Int))] ∧ Below W.heap.size W w') := fun W hW => trailN 1 _ W (HG.out.below HG.out.lt hW)
              obtain ⟨T, ev, hE⟩ := errOf_form 1 [(bookW, (ts.length : Int))]
              rw [hE] at HD HCD HTR
              clear hbv
              go_wp2_with fail
              refine HD.out.mono ?_
              rintro e w5 ⟨rfl, hb⟩
              have HS5 := Lib.hid (HST.out.keep hb)
              clear c0 hb HD
              have c0 := HC.out _ HS5.out.below
              obtain ⟨dv, hdv⟩ := HS5.out.doc
              have HD := Lib.hid (rtext_no hdv q hno)
              clear hdv
              go_wp2_with fail
              refine HD.out.mono ?_
              rintro e w6 ⟨rfl, hb⟩
              have HS6 := Lib.hid (HS5.out.keep hb)
              clear c0 hb HD hE
              have HDD := Lib.hid (bl_drew w6)
              have HW0 : Hid (Below w.heap.size w w6.drew) := (HS6.out.keep HDD.out).below
              have hcv : ∀ W : World, (convert 56 9 (.slice none 0 0)).run Tryd.prog W = .ok (.string ⟨#[]⟩) W := fun W => conv_nil W none 0
              obtain ⟨ad, cd, k0, kl⟩ := rb_cell HS6.out
              have HDC : Hid (∀ W, Below w6.heap.size w6 W → W.cell? ⟨d, 0, none⟩ = some (.slice ad ts.length cd)) := fun W hW => (hW.cell (p := ⟨d, 0, none⟩) kl).trans k0
              have HSL : Hid (∀ W : World, Lies (W.alloc (.cells #[.string ⟨#[98, 111, 111, 107]⟩, .int .i64 (ts.length : Int)] 42)) (some ⟨W.heap.size, 0, none⟩) 2 stepL [(bookW, (ts.length : Int))]) := fun W => step_lies (heap_alloc_new W _)
              go_upto_region 26 with fail
              go_cut [152] from 125 to 151 (fun v wx => v = .bool false ∧ BkSt w base b m d ts wx)
              case first =>
                have k9 := HDC.out _ HDD.out
                go_region_held3 (fun w' => w'.cell? ⟨d, 0, none⟩ = some (.slice ad ts.length cd)) (first | assumption | exact (HDC.out _ (by assumption)) | go_keep)
                  (first
                  | (go_at_call 10; refine (HCD.out _ HW0.out).mono ?_; rintro e wa ⟨rfl, hba⟩; have HBA := Lib.hid (bl_trans HDD.out hba); have HWA := Lib.hid (HW0.out.trans (hba.mono HW0.out.size)); have k0 := HDC.out wa HBA.out; clear hba)
                  | (go_at_call 12; refine (HTR.out _ ?sd).mono ?_; (case sd => first | with_reducible exact HWA.out | exact HWA.out.trans ((bl_alloc _ _).mono HWA.out.size)); rintro e wb ⟨ra, rc, rfl, hli, hbb⟩; have HLT2 := Lib.hid hli; have HBC := Lib.hid hbb; have HBV : Hid (Below w6.heap.size w6 wb) := (by first | exact bl_trans HBA.out HBC.out | exact bl_trans (bl_trans HBA.out (bl_alloc _ _)) HBC.out); have k0 := HDC.out wb HBV.out; clear hli hbb)
                  | (go_at_call 11; refine (same_st _ _ 1 _ _ [(bookW, (ts.length : Int))] _ ?sa ?sb rfl (by decide)).mono ?_; (case sa => first | with_reducible exact HLT2.out | exact HLT2.out.below (bl_alloc _ _)); (case sb => first | with_reducible exact HSL.out _ | exact (HSL.out _).below HBC.out); rintro e wd ⟨rfl, hbd⟩; have HBZ : Hid (Below w6.heap.size w6 wd) := (by first | exact bl_trans (bl_trans (bl_trans HBA.out HBC.out) (bl_alloc _ _)) hbd | exact bl_trans (bl_trans (bl_trans HBA.out (bl_alloc _ _)) HBC.out) hbd); have k0 := HDC.out wd HBZ.out; clear hbd))
                all_goals
                  go_wp2_with fail
                  go_meet
                  exact ⟨rfl, HS6.out.keep HBZ.out⟩
              case rest =>
                obtain ⟨rfl, hst⟩ := hcut
                have HNX : Hid (BkSt w base b m d ts wc) := hst
                clear hst k0 kl
                go_wp2_with fail
                exact ⟨⟨k + 1, by omega, by simp, HNX⟩, by simp [intOf]; omega⟩
            · obtain ⟨i, rfl⟩ : ∃ i : Nat, q = (i : Int) := ⟨q.toNat, by omega⟩
              have hil : i < ts.length := by omega
              obtain ⟨s, hs⟩ : ∃ s, ts[i]? = some s := ⟨_, List.getElem?_eq_getElem hil⟩
              have HS1 : Hid (s.size ≤ 65536) := HND.out.small s (List.mem_of_getElem? hs)
              have HSI := Lib.hid hs
              obtain ⟨bv, hbv⟩ := HST.out.book
              have HD := Lib.hid (text_at hbv i s hs)
              clear hbv hs hno hil
              go_wp2_with fail
              refine HD.out.mono ?_
              rintro e w5 ⟨g5, cap5, rfl, _, hl5, ⟨hB5, _⟩, hb⟩
              have HS5 := Lib.hid (HST.out.keep hb)
              have HB5 := Lib.hid hB5
              have HL5 := Lib.hid hl5
              clear c0 hb HD hB5 hl5
              have c0 := HC.out _ HS5.out.below
              obtain ⟨dv, hdv⟩ := HS5.out.doc
              have HD := Lib.hid (rtext_at hdv i s HSI.out (by have := HS1.out; omega))
              clear hdv
              go_wp2_with fail
              refine HD.out.mono ?_
              rintro e w6 ⟨g6, cap6, rfl, hl6, hB6, hb⟩
              have HS6 := Lib.hid (HS5.out.keep hb)
              have HCV1 : Hid (∀ W, Below w6.heap.size w6 W → (convert 56 9 (.slice (some ⟨g5, 0, none⟩) s.size cap5)).run Tryd.prog W = .ok (.string s) W) := fun W hW => conv_at (w := W) (fun i hi => (hW.cell (p := ⟨g5, _, none⟩) (Nat.lt_of_lt_of_le HL5.out hb.size)).trans ((hb.cell (p := ⟨g5, _, none⟩) HL5.out).trans (HB5.out i hi))) (fun _ => rfl)
              have HCV2 : Hid (∀ W, Below w6.heap.size w6 W → (convert 56 9 (.slice (some ⟨g6, 0, none⟩) s.size cap6)).run Tryd.prog W = .ok (.string s) W) := fun W hW => conv_at (w := W) (fun i hi => (hW.cell (p := ⟨g6, _, none⟩) hl6).trans (hB6 i hi)) (fun _ => rfl)
              have hss : (s.toList == s.toList) = true := by simp
              have HDD := Lib.hid (bl_drew w6)
              clear c0 hb HD hl6 hB6
              obtain ⟨sz, hsz⟩ : ∃ z, z = s.size := ⟨_, rfl⟩
              rw [← hsz] at HCV1 HCV2 ⊢
              clear hsz
              obtain ⟨ad, cd, k0, kl⟩ := rb_cell HS6.out
              go_upto_region 26 with fail
              go_cut [152] from 125 to 151 (fun v wx => v = .bool false ∧ BkSt w base b m d ts wx)
              case first =>
                have k1 : ∀ X : Later w6, (convert 56 9 (.slice (some ⟨g5, 0, none⟩) sz cap5)).run Tryd.prog X.1 = .ok (.string s) X.1 := fun X => HCV1.out _ X.2
                have k2 : ∀ X : Later w6, (convert 56 9 (.slice (some ⟨g6, 0, none⟩) sz cap6)).run Tryd.prog X.1 = .ok (.string s) X.1 := fun X => HCV2.out _ X.2
                have HCDN : Hid (∀ X : Later w6, Calls Tryd.prog 10 #[.nilIface] X.1 fun e w' => e = .returned (.int .i64 0) ∧ ∃ Y : Later w6, w' = Y.1) := fun X => later_call (code_nil X.1)
                have here := Later.here w6
                clear k0 kl
                refine wp_region_later (by kernel_rfl) (by kernel_rfl) ?_
                iterate 28 (with_reducible refine wpQuiet_step (fun K hK => ?_); go_simp; first | (refine hK _ ?_; clear hK K) | (apply Exists.intro; refine ⟨fun _ => ?_, hK _ ?_⟩; (go_at_call 10; with_reducible exact HCDN.out _); clear hK K))
                with_reducible refine wpQuiet_nil ?_
                intro X
                go_wp2_with fail
                go_meet
                exact ⟨rfl, HS6.out.keep X.2⟩
              case rest =>
                obtain ⟨rfl, hst⟩ := hcut
                have HNX : Hid (BkSt w base b m d ts wc) := hst
                clear hst k0 kl hss
                go_wp2_with fail
                exact ⟨⟨k + 1, by omega, by simp, HNX⟩, by simp [intOf]; omega⟩
          · obtain rfl : k = kn := by omega
            obtain ⟨bv, hbv⟩ := HST.out.book
            have HMY := Lib.hid (fun q => many_any (w := wr.drewN q) (h := (⟨hbv.blk, hbv.map, hbv.row, hbv.bb, hbv.bm, hbv.nb⟩ : BookAt (wr.drewN q) base b m bv ts)))
            obtain ⟨ad, cd, k0, kl⟩ := rb_cell HST.out
            have HE : Hid (∀ q, Below w.heap.size w (wr.drewN q)) := fun q => ⟨HST.out.below.os, HST.out.below.tape, HST.out.below.output, HST.out.below.size, HST.out.below.block⟩
            clear hbv
            go_wp2_with fail
            go_quiet ((go_at_call 26; exact Calls.quiet_of_same ((HMY.out _).mono fun _ _ h => ⟨h.1, h.2.symm⟩)))
            go_wp2_with fail
            go_ret
            exact ⟨rfl, HE.out _⟩
end Go.Proofs.YtmpbeopbkllcnaaDoor.Book
