/- SealsPlays: the walk. -/
import Derived.Test.YtmpbeopbkllcnaaDoorSePlay
namespace Go.Proofs.YtmpbeopbkllcnaaDoor.Seals
open Go.RowKit Go.My Go.Deep

set_option maxRecDepth 100000 in
set_option maxHeartbeats 6400000 in
theorem plays_3 (a : Option Addr) (cap : Nat) (ops : List SOp) (w : World) (hg : TypeIs w) (ho : Lies w a 3 opL ops) (hok : OpsOk ops) :
    Calls Tryd.prog 3 #[.slice a ops.length cap] w fun e w' => e = .returned (.bool true) ∧ Below w.heap.size w w' := by
  have HH := Lib.hid (head_any w)
  have HG := Lib.hid hg
  have HO := Lib.hid ho
  have HK := Lib.hid hok
  obtain ⟨n, hn⟩ : ∃ n, n = ops.length := ⟨_, rfl⟩
  have HN := Lib.hid hn
  rw [← hn]
  clear hg ho hok hn
  by_cases hn200 : (200 : Int) < (n : Int)
  · go_enter Tryd.func3, Tryd.ntmps3
    go_wp2_with fail
    refine HH.out.mono ?_
    rintro e w1 ⟨rfl, hb⟩
    have HB1 := Lib.hid hb
    clear hb
    go_wp2_with fail
    refine (new_any _).mono ?_
    rintro e w2 ⟨b, m, rfl, _, hb, _⟩
    have HB2 : Hid (∀ o, Below w.heap.size w (w2.alloc o)) := fun o => (HB1.out.trans (hb.mono HB1.out.size)).alloc (Nat.le_trans HB1.out.size hb.size) o
    clear hb
    go_wp2_with fail
    go_ret
    exact ⟨rfl, HB2.out _⟩
  go_enter Tryd.func3, Tryd.ntmps3
  go_wp2_with fail
  refine HH.out.mono ?_
  rintro e w1 ⟨rfl, hb⟩
  have HB1 := Lib.hid hb
  clear hb
  go_wp2_with fail
  refine (new_any _).mono ?_
  rintro e w2 ⟨b, m, rfl, hs, hb, hm⟩
  have P0 : Hid (SlSt w (w2.heap.size) b m w2.heap.size [] (w2.alloc (.cells #[.slice none 0 0] 29))) := by
    refine ⟨hs.below ((Below.refl _ w2).alloc (Nat.le_refl _) _), ⟨_, heap_alloc_new w2 _, World.ownsRow_nil _ _ _ _, Nat.le_refl _⟩, (HB1.out.trans (hb.mono HB1.out.size)).alloc (Nat.le_trans HB1.out.size hb.size) _, Nat.le_trans HB1.out.size hm, lt_of_heap hs.blk, hs.map.lt⟩
  obtain ⟨base, hbase⟩ : ∃ z, z = w2.heap.size := ⟨_, rfl⟩
  have HBS : Hid (base ≤ (w2.alloc (.cells #[.slice none 0 0] 29)).heap.size) := by show _ ≤ _; rw [hbase]; simp
  rw [← hbase] at P0
  obtain ⟨w3, hw3⟩ : ∃ z, z = w2.alloc (.cells #[.slice none 0 0] 29) := ⟨_, rfl⟩
  clear hs hb hm
  go_upto_region 4 with fail
  rw [← hw3] at P0 HBS ⊢
  rw [← hbase]
  clear hw3 hbase
  have P1 : Hid (∃ l : Seals, l.length ≤ 0 ∧ SlSt w base b m base l w3) := ⟨[], Nat.le_refl _, P0.out⟩
  have HBS1 : Hid (base ≤ w3.heap.size) := HBS.out
  clear P0
  obtain ⟨d, hd⟩ : ∃ z, z = base := ⟨_, rfl⟩
  have P2 : Hid (∃ l : Seals, l.length ≤ 0 ∧ SlSt w base b m d l w3 ∧ base ≤ w3.heap.size) := by
    obtain ⟨l, h1, h2⟩ := P1.out
    exact ⟨l, h1, by rw [hd]; exact h2, HBS1.out⟩
  rw [← hd]
  clear P1 HBS HBS1 hd
  go_wp2_with fail
  go_loopw [6] (fun i wr => ∃ j : Nat, j ≤ n ∧ i = .int .i64 j ∧ Hid (∃ l : Seals, l.length ≤ j ∧ SlSt w base b m d l wr ∧ base ≤ wr.heap.size)) (fun i _ => n - (intOf i).toNat)
  case atStart => exact ⟨0, by omega, rfl, P2⟩
  case round =>
    clear P2
    obtain ⟨j, hj, rfl, HI⟩ := hrel
    by_cases hlt : j < n
    · obtain ⟨l, hl, hst, hbs⟩ := HI.out
      obtain ⟨x, hx⟩ : ∃ x, ops[j]? = some x := ⟨_, List.getElem?_eq_getElem (by rw [← HN.out]; exact hlt)⟩
      obtain ⟨g, o, rfl, lg, hc⟩ := (HO.out.below hst.below).at hx
      have d0 : wr.cell? ⟨g, o + j * 3, none⟩ = some (.int .i64 x.what) := hc 0 _ rfl
      have d1 : wr.cell? ⟨g, o + j * 3 + 1, none⟩ = some (.int .i64 x.who) := hc 1 _ rfl
      have d2 : wr.cell? ⟨g, o + j * 3 + 2, none⟩ = some (.int .i64 x.d) := hc 2 _ rfl
      have hj0 : (0 : Int) ≤ (j : Int) := by omega
      have hj1 : (j : Int) < (n : Int) := by omega
      have HX := Lib.hid (HK.out _ _ hx)
      have hl200 : l.length ≤ 200 := by omega
      obtain ⟨w5, hw5⟩ : ∃ w5, w5 = wr.alloc (.cells #[.int .i64 x.what, .int .i64 x.who, .int .i64 x.d] 31) := ⟨_, rfl⟩
      obtain ⟨xb, hxb⟩ : ∃ z, z = wr.heap.size := ⟨_, rfl⟩
      have hb5 : Below wr.heap.size wr w5 := by rw [hw5]; exact (Below.refl _ wr).alloc (Nat.le_refl _) _
      have HX5 : Hid (w5.heap[xb]? = some (.cells #[.int .i64 x.what, .int .i64 x.who, .int .i64 x.d] 31 (0, 0))) := by show _ = _; rw [hw5, hxb]; exact heap_alloc_new wr _
      have HS5 : Hid (SlSt w base b m d l w5) := hst.keep hb5
      have HBS5 : Hid (base ≤ w5.heap.size) := Nat.le_trans hbs hb5.size
      have HXB : Hid (base ≤ xb) := by show _ ≤ _; rw [hxb]; exact hbs
      have HL : Hid (l.length ≤ j ∧ l.length ≤ 200) := ⟨hl, hl200⟩
      clear hx hc hb5 hst hbs hl hl200
      go_upto_region 10 with fail
      rw [← hw5, ← hxb]
      clear hw5 hxb d0 d1 d2 lg
      obtain ⟨xw, hxw⟩ : ∃ z, z = x.what := ⟨_, rfl⟩
      have HMC : Hid (∀ W : World, W.heap[xb]? = some (.cells #[.int .i64 x.what, .int .i64 x.who, .int .i64 x.d] 31 (0, 0)) → W.cell? ⟨xb, 0, none⟩ = some (.int .i64 x.what) ∧ W.cell? ⟨xb, 1, none⟩ = some (.int .i64 x.who) ∧ W.cell? ⟨xb, 2, none⟩ = some (.int .i64 x.d) ∧ xb < W.heap.size) := fun W h =>
        ⟨by rw [cell_of_row _ _ _ _ _ _ h]; rfl, by rw [cell_of_row _ _ _ _ _ _ h]; rfl, by rw [cell_of_row _ _ _ _ _ _ h]; rfl, lt_of_heap h⟩
      obtain ⟨m0, m1, m2, lm⟩ := HMC.out w5 HX5.out
      go_wp2_with fail
      · obtain ⟨ok, hok⟩ : ∃ ok, ok = okB x.who x.d := ⟨_, rfl⟩
        have hsg := st_sign (dg := x.d) HS5.out HX.out HL.out.2
        rw [← hok] at hsg
        refine hsg.mono ?_
        rintro e w6 ⟨rfl, hmid, ht⟩
        have hx6 : w6.heap[xb]? = _ := ht.heap HX5.out (by have := hmid.m1; have := HXB.out; simp; omega)
        have hbs6 : base ≤ w6.heap.size := Nat.le_trans HBS5.out ht.size
        have HRS := mid_sign hmid HL.out.2 hbs6
        rw [← hok] at HRS
        obtain ⟨l1, hl1⟩ : ∃ z, z = signS l x.who x.d := ⟨_, rfl⟩
        have HLN : Hid (l1.length ≤ j + 1) := by
          show _ ≤ _
          rw [hl1]
          have := signS_len l x.who x.d
          have := HL.out.1
          omega
        rw [← hl1] at HRS
        have HRS := Lib.hid HRS
        have HX6 := Lib.hid hx6
        have HBS6 := Lib.hid hbs6
        clear m0 m1 m2 lm hok hsg hmid ht hx6 hbs6 hl1
        obtain ⟨m0, m1, m2, lm⟩ := HMC.out w6 HX6.out
        cases ok with
        | true =>
          rw [errS_yes]
          rw [errN_yes] at HRS
          go_wp2_with fail
          refine HRS.out.mono ?_
          rintro e w7 ⟨rfl, hst, T, hw, hT⟩
          have hx7 : w7.heap[xb]? = _ := hw.heap HX6.out (fun hm => by
            obtain ⟨cur, t, h1, h2⟩ := hT _ hm
            rw [HX6.out] at h1
            cases h1
            rcases h2 with h2 | h2 <;> cases h2)
          have HX7 := Lib.hid hx7
          have HST7 := Lib.hid hst
          have HBS7 : Hid (base ≤ w7.heap.size) := Nat.le_trans HBS6.out hw.size
          clear m0 m1 m2 lm hst hw hT hx7
          obtain ⟨m0, m1, m2, lm⟩ := HMC.out w7 HX7.out
          go_upto_region 18 with fail
          have hd : Below w7.heap.size w7 w7.drew := ⟨rfl, rfl, rfl, Nat.le_refl _, fun _ _ => rfl⟩
          have HDD := Lib.hid hd
          clear hd
          go_cut [88] from 71 to 87 (fun v wx => v = .bool false ∧ SlSt w base b m d l1 wx ∧ base ≤ wx.heap.size)
          case first =>
            first | go_region_with (go_at_call 10; refine (code_nil _).mono ?_; rintro e wa ⟨rfl, hba⟩; have HBA := Lib.hid hba; clear hba) | fail
            all_goals
              go_wp2_with fail
              go_meet
              exact ⟨rfl, (HST7.out.keep HDD.out).keep HBA.out, Nat.le_trans HBS7.out HBA.out.size⟩
          case rest =>
            obtain ⟨rfl, htw, hbs⟩ := hcut
            have HSN : Hid (SlSt w base b m d l1 wc ∧ base ≤ wc.heap.size) := ⟨htw, hbs⟩
            clear htw hbs m0 m1 m2 lm
            obtain ⟨wz, hwz⟩ : ∃ z, z = wc := ⟨_, rfl⟩
            rw [← hwz] at HSN ⊢
            clear hwz
            obtain ⟨vd, hvd⟩ := HSN.out.1.doc
            obtain ⟨ad, cd, rfl, -⟩ := row_form hvd.row
            have c0 := hvd.c0
            have ld := lt_of_heap hvd.blk
            rw [List.length_map] at c0
            have HMN := Lib.hid (fun q => st_many HSN.out.1 q)
            have HNX : Hid (∀ q, ∃ l : Seals, l.length ≤ j + 1 ∧ SlSt w base b m d l (wz.drewN q) ∧ base ≤ (wz.drewN q).heap.size) := fun q => ⟨_, HLN.out, HSN.out.1.keep ⟨rfl, rfl, rfl, Nat.le_refl _, fun _ _ => rfl⟩, HSN.out.2⟩
            clear hvd
            go_wp2_with fail
            go_quiet ((go_at_call 18; exact Calls.quiet_of_same (HMN.out _)))
            go_wp2_with fail
            exact ⟨⟨j + 1, by omega, by simp, HNX.out _⟩, by simp [intOf]; omega⟩
        | false =>
          rw [errS_no]
          rw [errN_no] at HRS
          have HCD : Hid (∀ W, Below w.heap.size w W → Calls Tryd.prog 10 #[errOf 1 [(sealsW, x.who)]] W fun e w' => e = .returned (.int .i64 1) ∧ Below W.heap.size W w') := fun W hW => code_of 1 _ W (HG.out.below HG.out.lt hW)
          have HTR : Hid (∀ W, Below w.heap.size w W → Calls Tryd.prog 12 #[errOf 1 [(sealsW, x.who)]] W fun e w' => ∃ ra rc, e = .returned (.slice ra 1 rc) ∧ Lies w' ra 2 stepL [(sealsW, x.who)] ∧ Below W.heap.size W w') := fun W hW => trail1 _ W (HG.out.below HG.out.lt hW)
          obtain ⟨T, v, hE⟩ := errOf_form 1 [(sealsW, x.who)]
          rw [hE] at HCD HTR ⊢
          clear hE
          go_wp2_with fail
          refine HRS.out.mono ?_
          rintro e w7 ⟨rfl, hst, T, hw, hT⟩
          have hx7 : w7.heap[xb]? = _ := hw.heap HX6.out (fun hm => by
            obtain ⟨cur, t, h1, h2⟩ := hT _ hm
            rw [HX6.out] at h1
            cases h1
            rcases h2 with h2 | h2 <;> cases h2)
          have HX7 := Lib.hid hx7
          have HST7 := Lib.hid hst
          have HBS7 : Hid (base ≤ w7.heap.size) := Nat.le_trans HBS6.out hw.size
          clear m0 m1 m2 lm hst hw hT hx7
          obtain ⟨m0, m1, m2, lm⟩ := HMC.out w7 HX7.out
          go_upto_region 18 with fail
          have hd : Below w7.heap.size w7 w7.drew := ⟨rfl, rfl, rfl, Nat.le_refl _, fun _ _ => rfl⟩
          have HDD := Lib.hid hd
          clear hd
          have HW0 : Hid (Below w.heap.size w w7.drew) := (HST7.out.keep HDD.out).below
          have HXB7 : Hid (∀ W, Below w7.drew.heap.size w7.drew W → W.heap[xb]? = some (.cells #[.int .i64 x.what, .int .i64 x.who, .int .i64 x.d] 31 (0, 0))) := fun W hW => (hW.block _ (lt_of_heap HX7.out)).trans HX7.out
          have HSL : Hid (∀ W : World, Lies (W.alloc (.cells #[.string ⟨#[115, 101, 97, 108, 115]⟩, .int .i64 x.who] 42)) (some ⟨W.heap.size, 0, none⟩) 2 stepL [(sealsW, x.who)]) := fun W => step_lies (heap_alloc_new W _)
          go_cut [88] from 71 to 87 (fun v wx => v = .bool false ∧ SlSt w base b m d l1 wx ∧ base ≤ wx.heap.size)
          case first =>
            first | go_region_with (first
              | (go_at_call 10; refine (HCD.out _ HW0.out).mono ?_; rintro e wa ⟨rfl, hba⟩; have HBA := Lib.hid hba; have HWA := Lib.hid (HW0.out.trans (hba.mono HW0.out.size)); obtain ⟨_, m1, _, lm⟩ := HMC.out wa (HXB7.out wa hba); clear hba)
              | (go_at_call 12; refine (HTR.out _ ?sd).mono ?_; (case sd => first | with_reducible exact HWA.out | exact HWA.out.trans ((bl_alloc _ _).mono HWA.out.size)); rintro e wb ⟨ra, rc, rfl, hli, hbb⟩; have HLT := Lib.hid hli; have HBC := Lib.hid hbb; have HBV : Hid (Below w7.drew.heap.size w7.drew wb) := (by first | exact bl_trans HBA.out HBC.out | exact bl_trans (bl_trans HBA.out (bl_alloc _ _)) HBC.out); obtain ⟨_, m1, _, lm⟩ := HMC.out wb (HXB7.out wb HBV.out); clear hli hbb)
              | (go_at_call 11; refine (same_st _ _ 1 _ _ [(sealsW, x.who)] _ ?sa ?sb rfl (by decide)).mono ?_; (case sa => first | with_reducible exact HLT.out | exact HLT.out.below (bl_alloc _ _)); (case sb => first | with_reducible exact HSL.out _ | exact (HSL.out _).below HBC.out); rintro e wd ⟨rfl, hbd⟩; have HBZ : Hid (Below w7.heap.size w7 wd) := (by first | exact bl_trans (bl_trans (bl_trans (bl_trans HDD.out HBA.out) HBC.out) (bl_alloc _ _)) hbd | exact bl_trans (bl_trans (bl_trans (bl_trans HDD.out HBA.out) (bl_alloc _ _)) HBC.out) hbd); clear hbd)) | fail
            all_goals
              go_wp2_with fail
              go_meet
              exact ⟨rfl, HST7.out.keep HBZ.out, Nat.le_trans HBS7.out HBZ.out.size⟩
          case rest =>
            obtain ⟨rfl, htw, hbs⟩ := hcut
            have HSN : Hid (SlSt w base b m d l1 wc ∧ base ≤ wc.heap.size) := ⟨htw, hbs⟩
            clear htw hbs m0 m1 m2 lm
            obtain ⟨wz, hwz⟩ : ∃ z, z = wc := ⟨_, rfl⟩
            rw [← hwz] at HSN ⊢
            clear hwz
            obtain ⟨vd, hvd⟩ := HSN.out.1.doc
            obtain ⟨ad, cd, rfl, -⟩ := row_form hvd.row
            have c0 := hvd.c0
            have ld := lt_of_heap hvd.blk
            rw [List.length_map] at c0
            have HMN := Lib.hid (fun q => st_many HSN.out.1 q)
            have HNX : Hid (∀ q, ∃ l : Seals, l.length ≤ j + 1 ∧ SlSt w base b m d l (wz.drewN q) ∧ base ≤ (wz.drewN q).heap.size) := fun q => ⟨_, HLN.out, HSN.out.1.keep ⟨rfl, rfl, rfl, Nat.le_refl _, fun _ _ => rfl⟩, HSN.out.2⟩
            clear hvd
            go_wp2_with fail
            go_quiet ((go_at_call 18; exact Calls.quiet_of_same (HMN.out _)))
            go_wp2_with fail
            exact ⟨⟨j + 1, by omega, by simp, HNX.out _⟩, by simp [intOf]; omega⟩
      · have m1L : ∀ X : Later w5, X.1.cell? ⟨xb, 1, none⟩ = some (.int .i64 x.who) := fun X => (X.2.cell (p := ⟨xb, _, none⟩) lm).trans m1
        have m2L : ∀ X : Later w5, X.1.cell? ⟨xb, 2, none⟩ = some (.int .i64 x.d) := fun X => (X.2.cell (p := ⟨xb, _, none⟩) lm).trans m2
        have HQ1 : Hid (∀ X : Later w5, Calls Tryd.prog 13 #[.pointer (some ⟨b, 0, none⟩), .int .i64 x.who, .int .i64 x.d] X.1 fun e w' => e = .returned (.bool (signedB l x.who x.d)) ∧ ∃ Y : Later w5, w' = Y.1) := fun X => later_call (st_signed x.who x.d (HS5.out.keep X.2))
        have HQ2 : Hid (∀ X : Later w5, Calls Tryd.prog 14 #[.pointer (some ⟨d, 0, none⟩), .int .i64 x.who, .int .i64 x.d] X.1 fun e w' => e = .returned (.bool (signedB l x.who x.d)) ∧ ∃ Y : Later w5, w' = Y.1) := fun X => later_call (st_rsigned x.who x.d (HS5.out.keep X.2) HL.out.2)
        obtain ⟨sb, hsb⟩ : ∃ z, z = signedB l x.who x.d := ⟨_, rfl⟩
        rw [← hsb] at HQ1 HQ2
        have HLN : Hid (l.length ≤ j + 1) := by have := HL.out.1; show _ ≤ _; omega
        clear hsb m0 m1 m2
        have here := Later.here w5
        refine wp_region_later (by kernel_rfl) (by kernel_rfl) ?_
        iterate 13 (with_reducible refine wpQuiet_step (fun K hK => ?_); (try go_simp); first | (refine hK _ ?_; clear hK K) | (apply Exists.intro; refine ⟨fun _ => ?_, hK _ ?_⟩; (go_at_call 13; with_reducible exact HQ1.out _); clear hK K) | (apply Exists.intro; refine ⟨fun _ => ?_, hK _ ?_⟩; (go_at_call 14; with_reducible exact HQ2.out _); clear hK K))
        with_reducible refine wpQuiet_nil ?_
        intro X
        have hsb : (sb == sb) = true := by simp
        obtain ⟨wz, hwz⟩ : ∃ z, z = X.1 := ⟨_, rfl⟩
        have HSN : Hid (SlSt w base b m d l wz ∧ base ≤ wz.heap.size) := by
          show _ ∧ _
          rw [hwz]
          exact ⟨HS5.out.keep X.2, Nat.le_trans HBS5.out X.2.size⟩
        rw [← hwz]
        clear m1L m2L HQ1 HQ2 hwz X here lm
        obtain ⟨vd, hvd⟩ := HSN.out.1.doc
        obtain ⟨ad, cd, rfl, -⟩ := row_form hvd.row
        have c0 := hvd.c0
        have ld := lt_of_heap hvd.blk
        rw [List.length_map] at c0
        have HMN := Lib.hid (fun q => st_many HSN.out.1 q)
        have HNX : Hid (∀ q, ∃ l : Seals, l.length ≤ j + 1 ∧ SlSt w base b m d l (wz.drewN q) ∧ base ≤ (wz.drewN q).heap.size) := fun q => ⟨_, HLN.out, HSN.out.1.keep ⟨rfl, rfl, rfl, Nat.le_refl _, fun _ _ => rfl⟩, HSN.out.2⟩
        clear hvd
        go_wp2_with fail
        go_quiet ((go_at_call 18; exact Calls.quiet_of_same (HMN.out _)))
        go_wp2_with fail
        exact ⟨⟨j + 1, by omega, by simp, HNX.out _⟩, by simp [intOf]; omega⟩
      · refine (st_who x.who x.d HS5.out).mono ?_
        rintro e w6 hwho
        obtain ⟨ra, rc, rfl, hli, hbb⟩ := who_lies hwho
        have HLI := Lib.hid hli
        have HB6 := Lib.hid hbb
        obtain ⟨m0', m1', m2', lm'⟩ := HMC.out w6 ((hbb.block _ (lt_of_heap HX5.out)).trans HX5.out)
        have HS6 := Lib.hid (HS5.out.keep hbb)
        clear m0 m1 m2 lm hwho hli hbb
        go_wp2_with fail
        refine (st_rwho x.who x.d HS6.out HL.out.2).mono ?_
        rintro e w7 hwho
        obtain ⟨rb, rd, rfl, hlj, hbb⟩ := who_lies hwho
        have HLJ := Lib.hid hlj
        have HLI7 := Lib.hid (HLI.out.below hbb)
        have HS7 := Lib.hid (HS6.out.keep hbb)
        have HBS7 : Hid (base ≤ w7.heap.size) := Nat.le_trans HBS5.out (Nat.le_trans HB6.out.size hbb.size)
        obtain ⟨R, hR⟩ : ∃ z, z = whoL l x.who x.d := ⟨_, rfl⟩
        have hRn : R.length ≤ 10 := by rw [hR]; exact whoL_len _ _ _
        rw [← hR] at HLJ HLI7 ⊢
        have HSI := Lib.hid (sameints_17 ra rb R.length rc rd R w7 HLI7.out HLJ.out rfl (by omega))
        obtain ⟨rn, hrn⟩ : ∃ z, z = R.length := ⟨_, rfl⟩
        rw [← hrn] at HSI ⊢
        have HLN : Hid (l.length ≤ j + 1) := by have := HL.out.1; show _ ≤ _; omega
        clear m0' m1' m2' lm' hwho hlj hbb hR hRn hrn
        go_wp2_with fail
        refine HSI.out.mono ?_
        rintro e wz ⟨rfl, hbz⟩
        have HSN : Hid (SlSt w base b m d l wz ∧ base ≤ wz.heap.size) := ⟨HS7.out.keep hbz, Nat.le_trans HBS7.out hbz.size⟩
        clear hbz
        obtain ⟨vd, hvd⟩ := HSN.out.1.doc
        obtain ⟨ad, cd, rfl, -⟩ := row_form hvd.row
        have c0 := hvd.c0
        have ld := lt_of_heap hvd.blk
        rw [List.length_map] at c0
        have HMN := Lib.hid (fun q => st_many HSN.out.1 q)
        have HNX : Hid (∀ q, ∃ l : Seals, l.length ≤ j + 1 ∧ SlSt w base b m d l (wz.drewN q) ∧ base ≤ (wz.drewN q).heap.size) := fun q => ⟨_, HLN.out, HSN.out.1.keep ⟨rfl, rfl, rfl, Nat.le_refl _, fun _ _ => rfl⟩, HSN.out.2⟩
        clear hvd
        go_wp2_with fail
        go_quiet ((go_at_call 18; exact Calls.quiet_of_same (HMN.out _)))
        go_wp2_with fail
        exact ⟨⟨j + 1, by omega, by simp, HNX.out _⟩, by simp [intOf]; omega⟩
    · obtain rfl : j = n := by omega
      go_wp2_with fail
      go_ret
      exact ⟨rfl, by obtain ⟨l, _, h, _⟩ := HI.out; exact h.below⟩
end Go.Proofs.YtmpbeopbkllcnaaDoor.Seals
