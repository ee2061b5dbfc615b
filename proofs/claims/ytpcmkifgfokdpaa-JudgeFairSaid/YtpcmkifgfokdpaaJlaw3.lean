/- A judge: where there is no fault. -/
import Derived.Test.YtpcmkifgfokdpaaFair0
import Derived.Deep.RegionWith
import Derived.Deep.RegionHeld3
import Derived.Deep.DeepCutAuto
import Derived.Deep.CutBlock
import Derived.BigQuiet
import Derived.Deep.QuietTactic
namespace Go.Proofs.Ytpcmkifgfokdpaa
open Go.RowKit Go.My Go.My.Model Go.Deep
def ElderE (wr : World) (e : Ent) (x y : Value) (W : World) : Prop := ∃ g, x = .pointer (some ⟨g, 0, none⟩) ∧ y = .bool true ∧ W.heap[g]? = some (.cells #[.string e.key, .string e.value, .int .i64 e.ver] 43 (0, 0)) ∧ Below wr.heap.size wr W
theorem elderE_new {wr w' : World} {e : Ent} (hb : Below wr.drew.heap.size wr.drew w') : ElderE wr e (.pointer (some ⟨w'.heap.size, 0, none⟩)) (.bool true) (w'.alloc (.cells #[.string e.key, .string e.value, .int .i64 e.ver] 43)) := by
  have h : Below wr.heap.size wr w' := (Below.refl _ wr).drew.trans hb
  exact ⟨_, rfl, rfl, heap_alloc_new w' _, h.alloc h.size _⟩
theorem elderE_old {wr w' : World} {e : Ent} (hb : Below wr.heap.size wr w') (hrow : w'.heap[wr.heap.size]? = some (.cells #[.string ⟨#[]⟩, .string ⟨#[]⟩, .int .i64 0] 43 (0, 0))) :
    ElderE wr e (.pointer (some ⟨wr.heap.size, 0, none⟩)) (.bool true) (((w'.setCell ⟨wr.heap.size, 0, none⟩ (.string e.key)).setCell ⟨wr.heap.size, 1, none⟩ (.string e.value)).setCell ⟨wr.heap.size, 2, none⟩ (.int .i64 e.ver)) := by
  have h1 := heap_setCell_same _ wr.heap.size 0 _ _ (.string e.key) hrow
  have h2 := heap_setCell_same _ wr.heap.size 1 _ _ (.string e.value) h1
  have h3 := heap_setCell_same _ wr.heap.size 2 _ _ (.int .i64 e.ver) h2
  have hw := (((Wrote.of_below (S := []) hb).setCell (p := ⟨wr.heap.size, 0, none⟩) (.inr (Nat.le_refl _)) (.string e.key)).setCell (p := ⟨wr.heap.size, 1, none⟩) (.inr (Nat.le_refl _)) (.string e.value)).setCell (p := ⟨wr.heap.size, 2, none⟩) (.inr (Nat.le_refl _)) (.int .i64 e.ver)
  exact ⟨_, rfl, rfl, h3, hw.below (Nat.le_refl _) (by simp)⟩
theorem store3 {wr w' : World} (h : Below wr.heap.size wr w') (a b c : Value) : Below wr.heap.size wr (((w'.setCell ⟨wr.heap.size, 0, none⟩ a).setCell ⟨wr.heap.size, 1, none⟩ b).setCell ⟨wr.heap.size, 2, none⟩ c) :=
  ((((Wrote.of_below (S := []) h).setCell (p := ⟨wr.heap.size, 0, none⟩) (.inr (Nat.le_refl _)) a).setCell (p := ⟨wr.heap.size, 1, none⟩) (.inr (Nat.le_refl _)) b).setCell (p := ⟨wr.heap.size, 2, none⟩) (.inr (Nat.le_refl _)) c).below (Nat.le_refl _) (by simp)
theorem drwThen {w w' : World} (h : Below w.drew.heap.size w.drew w') : Below w.heap.size w w' := (Below.refl _ w).drew.trans h
set_option maxRecDepth 100000 in
set_option maxHeartbeats 128000000 in
theorem fair_3 (o g s : Sl) (T : List Tx) (G : List Int) (S : List Seen) (ka : Option Addr) (kcap : Nat) (K : List ByteArray) (w : World) (ht : TrialIn w o g s T G S) (hk : Lies w ka 1 strL K) (hkf : K.length ≤ 70368744177664) :
    Calls Try.prog 3 #[trialA o g s, .slice ka K.length kcap] w (BoolLeft w true) := by
  have HT := Lib.hid ht
  have HK := Lib.hid hk
  obtain ⟨oa, on, oc⟩ := o
  obtain ⟨ga, gn, gc⟩ := g
  obtain ⟨sa, sn, sc⟩ := s
  have HON := Lib.hid ht.on
  have HGN := Lib.hid ht.gn
  have HSN := Lib.hid ht.sn
  simp only at HON HGN HSN
  obtain ⟨kn, hkn⟩ : ∃ kn, kn = K.length := ⟨_, rfl⟩
  have HKN := Lib.hid hkn
  have hkn9 : (kn : Int) ≤ 70368744177664 := by omega
  have hsn9 : (sn : Int) ≤ 70368744177664 := by have := ht.fs; have := HSN.out; omega
  have hgn9 : (gn : Int) ≤ 70368744177664 := by have := ht.fg; have := HGN.out; omega
  have hon9 : (on : Int) ≤ 70368744177664 := by have := ht.ft.1; have := HON.out; omega
  have HORD : Hid (OrdAt w oa T) := ht.ord
  have HLG : Hid (Lies w ga 1 intL G) := ht.groups
  have HLS : Hid (Lies w sa 12 seenL S) := ht.seen
  have HEA : Hid (∀ x ∈ S, SeenIn w x ∧ FineS x) := ht.each
  have HOC : Hid (on ≤ oc) := ht.oc
  rw [← hkn]
  have HGR : Hid (∀ W, Below w.heap.size w W → Calls Try.prog 7 #[.agg #[.slice oa on oc, .slice ga gn gc, .slice sa sn sc]] W (GreatLeft W T G S)) := fun W hb => (HT.out.later hb).great
  have HJ : Hid (∀ W, Below w.heap.size w W → Small T G S → Calls Try.prog 8 #[.agg #[.slice oa on oc, .slice ga gn gc, .slice sa sn sc]] W (FindLeft W (JudgeSpec T (onesOf G S)))) := fun W hb h => (HT.out.later hb).judge h
  clear ht hk hkf hkn
  obtain ⟨W0, hW0⟩ : ∃ W0, W0 = w.alloc (.cells #[.slice oa on oc, .slice ga gn gc, .slice sa sn sc] 26) := ⟨_, rfl⟩
  have HB0 : Hid (Below w.heap.size w W0) := by show Below _ _ _; rw [hW0]; exact (Below.refl _ w).alloc (Nat.le_refl _) _
  have HT0 : Hid (W0.heap[w.heap.size]? = some (.cells #[.slice oa on oc, .slice ga gn gc, .slice sa sn sc] 26 (0, 0))) := by show _ = _; rw [hW0]; exact heap_alloc_new w _
  have HPT : Hid (∀ W, Below W0.heap.size W0 W → W.cell? ⟨w.heap.size, 0, none⟩ = some (.slice oa on oc) ∧ W.cell? ⟨w.heap.size, 1, none⟩ = some (.slice ga gn gc) ∧ W.cell? ⟨w.heap.size, 2, none⟩ = some (.slice sa sn sc) ∧ w.heap.size < W.heap.size) := fun W hb => by
    have h := (hb.block _ (lt_of_heap HT0.out)).trans HT0.out
    exact ⟨by rw [cell_of_row _ _ _ _ _ _ h]; rfl, by rw [cell_of_row _ _ _ _ _ _ h]; rfl, by rw [cell_of_row _ _ _ _ _ _ h]; rfl, lt_of_heap h⟩
  unfold trialA
  simp only
  go_enter Try.func3, Try.ntmps3
  go_wp2_with fail
  rw [← hW0]
  clear hW0
  refine (head_6 W0).mono ?_
  rintro e w1 ⟨rfl, hb1⟩
  have HB1 := Lib.hid hb1
  obtain ⟨q0, q1, q2, lp⟩ := HPT.out _ HB1.out
  clear hb1
  go_wp2_with fail
  refine (HGR.out w1 (HB0.out.trans (HB1.out.mono HB0.out.size))).mono ?_
  rintro e w2 ⟨gr, rfl, hg, hb2⟩
  have HB2 : Hid (Below W0.heap.size W0 w2) := HB1.out.trans (hb2.mono HB1.out.size)
  have HBw2 : Hid (Below w.heap.size w w2) := HB0.out.trans (HB2.out.mono HB0.out.size)
  clear hb2 q0 q1 q2 lp
  obtain ⟨q0, q1, q2, lp⟩ := HPT.out _ HB2.out
  cases gr with
  | true =>
    clear hg
    go_wp2_with fail
    go_ret
    exact ⟨rfl, HBw2.out⟩
  | false =>
    have HSM : Hid (Small T G S) := hg rfl
    clear hg
    by_cases hk20 : (20 : Int) < (kn : Int)
    · go_wp2_with fail
      go_ret
      exact ⟨rfl, HBw2.out⟩
    by_cases hgs : (gn : Int) < (sn : Int)
    · go_wp2_with fail
      go_ret
      exact ⟨rfl, HBw2.out⟩
    go_wp2_with fail
    refine (HJ.out w2 HBw2.out HSM.out).mono ?_
    rintro e w3 ⟨v, rfl, hb3, hs3⟩
    have HB3 : Hid (Below W0.heap.size W0 w3) := HB2.out.trans (hb3.mono HB2.out.size)
    have HV := Lib.hid hs3
    obtain ⟨f, a, b⟩ := v
    unfold verA
    simp only
    clear hb3 hs3 q0 q1 q2 lp
    have HBw3 : Hid (Below w.heap.size w w3) := HB0.out.trans (HB3.out.mono HB0.out.size)
    have HBA : Hid (∀ o, Below w.heap.size w (w3.alloc o)) := fun o => HBw3.out.alloc HBw3.out.size _
    by_cases hf0 : f = 0
    · have HCL : Hid (Clean T (onesOf G S)) := (judge_zero HV.out hf0).2
      subst hf0
      obtain ⟨W4, hW4⟩ : ∃ W4, W4 = w3.alloc (.cells #[.int .i64 0, .int .i64 a, .int .i64 b] 31) := ⟨_, rfl⟩
      have HB4 : Hid (Below W0.heap.size W0 W4) := by show Below _ _ _; rw [hW4]; exact HB3.out.alloc HB3.out.size _
      have HBw4 : Hid (Below w.heap.size w W4) := HB0.out.trans (HB4.out.mono HB0.out.size)
      obtain ⟨hq0, _, _, hlp⟩ := HPT.out _ HB4.out
      have q0 : ∀ X : Later W4, X.1.cell? ⟨w.heap.size, 0, none⟩ = some (.slice oa on oc) := fun X => (X.2.cell (p := ⟨w.heap.size, 0, none⟩) hlp).trans hq0
      have HFEW : Hid (FewT T) := HSM.out.few.1
      have HQ : Hid (∀ X : Later W4, Calls Try.prog 9 #[.slice oa on oc] X.1 fun e w' => e = .returned (.int .i64 (on : Int)) ∧ ∃ Y : Later W4, w' = Y.1) := fun X => by
        refine later_call ?_
        have h := ref_fits oa oc T X.1 (ord_far HORD.out (HBw4.out.trans (X.2.mono HBw4.out.size)) (by simp)) (by have := HFEW.out.len; omega) (by rw [← HON.out]; exact HOC.out) (by have := HFEW.out.writes; omega) (fun t ht => by have := HFEW.out.reads t ht; omega)
        unfold FitsLeft at h
        rw [HCL.out.fits, ← HON.out] at h
        exact h
      have hne : ((on : Int) != (on : Int)) = false := by simp
      clear hq0 hlp hk20
      go_wp2_with fail
      rw [← hW4]
      clear hW4
      have here := Later.here W4
      refine wp_region_later (by kernel_rfl) (by kernel_rfl) ?_
      iterate 7 (with_reducible refine wpQuiet_step (fun K hK => ?_); go_simp; first | (refine hK _ ?_; clear hK K) | (apply Exists.intro; refine ⟨fun _ => ?_, hK _ ?_⟩; (go_at_call 9; with_reducible exact HQ.out _); clear hK K))
      with_reducible refine wpQuiet_nil ?_
      intro X
      have P0 : Hid (Below W0.heap.size W0 X.1) := HB4.out.trans (X.2.mono HB4.out.size)
      clear q0 HQ hne here HBA HV HJ HGR
      obtain ⟨W5, hW5⟩ : ∃ W5, W5 = X.1 := ⟨_, rfl⟩
      rw [← hW5] at P0 ⊢
      clear hW5 X
      go_wp2_with fail
      go_loopw [7] (fun i wr => ∃ j : Nat, j ≤ sn ∧ i = .int .i64 j ∧ Hid (Below W0.heap.size W0 wr)) (fun i _ => sn - (intOf i).toNat)
      case atStart => exact ⟨0, by omega, rfl, P0⟩
      case round => as_aux_lemma =>
        clear P0
        obtain ⟨j, hj, rfl, HB⟩ := hrel
        obtain ⟨q0, q1, q2, lp⟩ := HPT.out _ HB.out
        have HBW : Hid (Below w.heap.size w wr) := HB0.out.trans (HB.out.mono HB0.out.size)
        by_cases hlt : j < sn
        · obtain ⟨x, hx⟩ : ∃ x, S[j]? = some x := ⟨_, List.getElem?_eq_getElem (by rw [← HSN.out]; exact hlt)⟩
          obtain ⟨gj, hgj⟩ : ∃ gj, G[j]? = some gj := ⟨_, List.getElem?_eq_getElem (by rw [← HGN.out]; omega)⟩
          obtain ⟨sg, so, rfl, hsg, xc⟩ := HLS.out.below HBW.out j x hx
          obtain ⟨gg, go, rfl, hgg, gcl⟩ := HLG.out j gj hgj
          have HGJ : Hid (∀ W, Below w.heap.size w W → W.cell? ⟨gg, go + j, none⟩ = some (.int .i64 gj) ∧ gg < W.heap.size) := fun W hb =>
            ⟨(hb.cell (p := ⟨gg, _, none⟩) hgg).trans (by have h := gcl 0 _ rfl; simpa using h), Nat.lt_of_lt_of_le hgg hb.size⟩
          have s0 : wr.cell? ⟨sg, so + j * 12, none⟩ = some (.int .i64 x.view) := xc 0 _ rfl
          have s1 : wr.cell? ⟨sg, so + j * 12 + 1, none⟩ = some (.bool x.normal) := xc 1 _ rfl
          have s2 : wr.cell? ⟨sg, so + j * 12 + 2, none⟩ = some (.int .i64 x.done) := xc 2 _ rfl
          have s3 : wr.cell? ⟨sg, so + j * 12 + 3, none⟩ = some (.int .i64 x.stable) := xc 3 _ rfl
          have s4 : wr.cell? ⟨sg, so + j * 12 + 4, none⟩ = some (.int .i64 x.pending) := xc 4 _ rfl
          have s5 : wr.cell? ⟨sg, so + j * 12 + 5, none⟩ = some (.slice x.ranS.a x.ranS.n x.ranS.cap) := xc 5 _ rfl
          have s6 : wr.cell? ⟨sg, so + j * 12 + 6, none⟩ = some (.slice x.saysS.a x.saysS.n x.saysS.cap) := xc 6 _ rfl
          have s7 : wr.cell? ⟨sg, so + j * 12 + 7, none⟩ = some (.slice x.recsS.a x.recsS.n x.recsS.cap) := xc 7 _ rfl
          have s8 : wr.cell? ⟨sg, so + j * 12 + 8, none⟩ = some (.slice x.entsS.a x.entsS.n x.entsS.cap) := xc 8 _ rfl
          have s9 : wr.cell? ⟨sg, so + j * 12 + 9, none⟩ = some (.slice x.heldS.a x.heldS.n x.heldS.cap) := xc 9 _ rfl
          have s10 : wr.cell? ⟨sg, so + j * 12 + 10, none⟩ = some (.slice x.piecesS.a x.piecesS.n x.piecesS.cap) := xc 10 _ rfl
          have s11 : wr.cell? ⟨sg, so + j * 12 + 11, none⟩ = some (.slice x.movesS.a x.movesS.n x.movesS.cap) := xc 11 _ rfl
          obtain ⟨hxi, _⟩ := HEA.out x (List.mem_of_getElem? hx)
          have hxf := HSM.out.few.2.2.2 x (List.mem_of_getElem? hx)
          obtain ⟨xra, hxra⟩ : ∃ z, z = x.ranS.a := ⟨_, rfl⟩
          obtain ⟨xrn, hxrn⟩ : ∃ z, z = x.ran.length := ⟨_, rfl⟩
          obtain ⟨xea, hxea⟩ : ∃ z, z = x.entsS.a := ⟨_, rfl⟩
          obtain ⟨xen, hxen⟩ : ∃ z, z = x.ents.length := ⟨_, rfl⟩
          obtain ⟨xha, hxha⟩ : ∃ z, z = x.heldS.a := ⟨_, rfl⟩
          obtain ⟨xhn, hxhn⟩ : ∃ z, z = x.held.length := ⟨_, rfl⟩
          rw [hxi.ranN, ← hxra, ← hxrn] at s5
          have HLxr : Hid (Lies w xra 2 ranL x.ran) := by show Lies _ _ _ _ _; rw [hxra]; exact hxi.ran
          have HNxr := Lib.hid hxrn
          have hxr9 : (xrn : Int) ≤ 1000 := by have := hxf.ran; omega
          rw [hxi.entsN, ← hxea, ← hxen] at s8
          have HLxe : Hid (Lies w xea 3 etL x.ents) := by show Lies _ _ _ _ _; rw [hxea]; exact hxi.ents
          have HNxe := Lib.hid hxen
          have hxe9 : (xen : Int) ≤ 1000 := by have := hxf.ents; omega
          rw [hxi.heldN, ← hxha, ← hxhn] at s9
          have HLxh : Hid (Lies w xha 5 helL x.held) := by show Lies _ _ _ _ _; rw [hxha]; exact hxi.held
          have HNxh := Lib.hid hxhn
          have hxh9 : (xhn : Int) ≤ 1000 := by have := hxf.held; omega
          have HX := Lib.hid hx
          have HG1 := Lib.hid hgj
          obtain ⟨g1, lg1⟩ := HGJ.out _ HBW.out
          have hj0 : (0 : Int) ≤ (j : Int) := by omega
          have hj1 : (j : Int) < (sn : Int) := by omega
          have hj2 : (j : Int) < (gn : Int) := by omega
          obtain ⟨W1, hW1⟩ : ∃ W1, W1 = wr.alloc (.cells #[.int .i64 x.view, .bool x.normal, .int .i64 x.done, .int .i64 x.stable, .int .i64 x.pending, .slice xra xrn x.ranS.cap, .slice x.saysS.a x.saysS.n x.saysS.cap, .slice x.recsS.a x.recsS.n x.recsS.cap, .slice xea xen x.entsS.cap, .slice xha xhn x.heldS.cap, .slice x.piecesS.a x.piecesS.n x.piecesS.cap, .slice x.movesS.a x.movesS.n x.movesS.cap] 41) := ⟨_, rfl⟩
          have HB1' : Hid (Below wr.heap.size wr W1) := by show Below _ _ _; rw [hW1]; exact (Below.refl _ wr).alloc (Nat.le_refl _) _
          have HX1 : Hid (W1.heap[wr.heap.size]? = some (.cells #[.int .i64 x.view, .bool x.normal, .int .i64 x.done, .int .i64 x.stable, .int .i64 x.pending, .slice xra xrn x.ranS.cap, .slice x.saysS.a x.saysS.n x.saysS.cap, .slice x.recsS.a x.recsS.n x.recsS.cap, .slice xea xen x.entsS.cap, .slice xha xhn x.heldS.cap, .slice x.piecesS.a x.piecesS.n x.piecesS.cap, .slice x.movesS.a x.movesS.n x.movesS.cap] 41 (0, 0))) := by show _ = _; rw [hW1]; exact heap_alloc_new wr _
          have HBL : Hid (∀ W, Below W1.heap.size W1 W → Below W0.heap.size W0 W) := fun W hb => HB.out.trans ((HB1'.out.trans (hb.mono HB1'.out.size)).mono HB.out.size)
          have P1 : Hid (Below W1.heap.size W1 W1) := Below.refl _ _
          have HBN : Hid (Below W0.heap.size W0 W1) := HBL.out _ P1.out
          have hjs : j + 1 ≤ sn := hlt
          clear hx hgj xc gcl hxi hxf hxra hxrn hxea hxen hxha hxhn hlt hgg
          by_cases hneg : gj < 0
          · go_wp2_with fail
            rw [← hW1]
            exact ⟨⟨j + 1, by omega, by simp, HBN⟩, by simp [intOf]; omega⟩
          · go_upto_block 2 with fail
            obtain ⟨xb, hxb⟩ : ∃ z, z = wr.heap.size := ⟨_, rfl⟩
            rw [← hW1, ← hxb]
            rw [← hxb] at HX1
            have HXB : Hid (∀ W, Below W1.heap.size W1 W → W.cell? ⟨xb, 5, none⟩ = some (.slice xra xrn x.ranS.cap) ∧ W.cell? ⟨xb, 8, none⟩ = some (.slice xea xen x.entsS.cap) ∧ W.cell? ⟨xb, 9, none⟩ = some (.slice xha xhn x.heldS.cap) ∧ xb < W.heap.size) := fun W hb => by
              have h := (hb.block _ (lt_of_heap HX1.out)).trans HX1.out
              exact ⟨by rw [cell_of_row _ _ _ _ _ _ h]; rfl, by rw [cell_of_row _ _ _ _ _ _ h]; rfl, by rw [cell_of_row _ _ _ _ _ _ h]; rfl, lt_of_heap h⟩
            clear hW1 hxb HX1 HB1' q0 q1 q2 lp g1 lg1 hsg s0 s1 s2 s3 s4 s5 s6 s7 s8 s9 s10 s11
            go_cut [9, 10, 11] from 78 to 121 (fun i y z wx => Hid (Below W1.heap.size W1 wx))
            case first => as_aux_lemma =>
              go_wp2_with fail
              go_loopw [9] (fun i W => ∃ m : Nat, m ≤ xen ∧ i = .int .i64 m ∧ Hid (Below W1.heap.size W1 W)) (fun i _ => xen - (intOf i).toNat)
              case atStart => exact ⟨0, by omega, rfl, P1⟩
              case round => as_aux_lemma =>
                clear P1
                obtain ⟨m, hm, rfl, HV⟩ := hrel
                have HBV : Hid (Below W0.heap.size W0 wr) := HBL.out _ HV.out
                have HBw : Hid (Below w.heap.size w wr) := HB0.out.trans (HBV.out.mono HB0.out.size)
                obtain ⟨q0, q1, q2, lp⟩ := HPT.out _ HBV.out
                obtain ⟨x5, x8, x9, lx⟩ := HXB.out _ HV.out
                obtain ⟨g1, lg1⟩ := HGJ.out _ HBw.out
                have P2 : Hid (Below W1.heap.size W1 wr) := HV.out
                by_cases hlm : m < xen
                · by_cases hpos : 0 < gj
                  · obtain ⟨e, he⟩ : ∃ e, x.ents[m]? = some e := ⟨_, List.getElem?_eq_getElem (by rw [← HNxe.out]; exact hlm)⟩
                    obtain ⟨eg, eo, rfl, heg, ec⟩ := HLxe.out.below HBw.out m e he
                    have e0 : wr.cell? ⟨eg, eo + m * 3, none⟩ = some (.string e.key) := ec 0 _ rfl
                    have e1 : wr.cell? ⟨eg, eo + m * 3 + 1, none⟩ = some (.string e.value) := ec 1 _ rfl
                    have e2 : wr.cell? ⟨eg, eo + m * 3 + 2, none⟩ = some (.int .i64 e.ver) := ec 2 _ rfl
                    have HEC : Hid (∀ W, Below wr.heap.size wr W → W.cell? ⟨eg, eo + m * 3, none⟩ = some (.string e.key) ∧ W.cell? ⟨eg, eo + m * 3 + 1, none⟩ = some (.string e.value) ∧ W.cell? ⟨eg, eo + m * 3 + 2, none⟩ = some (.int .i64 e.ver) ∧ eg < W.heap.size) := fun W hb =>
                      ⟨(hb.cell (p := ⟨eg, _, none⟩) heg).trans (ec 0 _ rfl), (hb.cell (p := ⟨eg, _, none⟩) heg).trans (ec 1 _ rfl), (hb.cell (p := ⟨eg, _, none⟩) heg).trans (ec 2 _ rfl), Nat.lt_of_lt_of_le heg hb.size⟩
                    have hat := fair_ent HCL.out HG1.out HX.out hpos (List.mem_of_getElem? he)
                    have hm0 : (0 : Int) ≤ (m : Int) := by omega
                    have hm1 : (m : Int) < (xen : Int) := by omega
                    have hm2 : m + 1 ≤ xen := hlm
                    have HCALL : Hid (∀ W, Below wr.heap.size wr W → Calls Try.prog 10 #[.slice oa on oc, .string e.key, .int .i64 e.ver] W fun r w' => r = .returned (.tuple #[.agg #[.string e.key, .string e.value, .int .i64 e.ver], .bool true]) ∧ Below W.heap.size W w') := fun W hb => by
                      have h := ref_at oa oc T e.key e.ver W (ord_far HORD.out (HBw.out.trans (hb.mono HBw.out.size)) (by simp)) (by have := HSM.out.few.1.len; omega) (by have := HSM.out.few.1.writes; omega)
                      unfold AtLeft at h
                      rw [hat.1, hat.2, ← HON.out] at h
                      exact h
                    have HCALL2 : Hid (Calls Try.prog 10 #[.slice oa on oc, .string e.key, .int .i64 e.ver] (wr.drew.alloc (.cells #[.string ⟨#[]⟩, .string ⟨#[]⟩, .int .i64 0] 43)) fun r w' => r = .returned (.tuple #[.agg #[.string e.key, .string e.value, .int .i64 e.ver], .bool true]) ∧
                        Below wr.heap.size wr w' ∧ w'.heap[wr.heap.size]? = some (.cells #[.string ⟨#[]⟩, .string ⟨#[]⟩, .int .i64 0] 43 (0, 0)) ∧ w'.cell? ⟨wr.heap.size, 0, none⟩ = some (.string ⟨#[]⟩) ∧ w'.cell? ⟨wr.heap.size, 1, none⟩ = some (.string ⟨#[]⟩) ∧ w'.cell? ⟨wr.heap.size, 2, none⟩ = some (.int .i64 0) ∧
                        (∀ i, w'.frozen? ⟨wr.heap.size, i, none⟩ = false) ∧ wr.heap.size < w'.heap.size) := by
                      have hbA : Below wr.heap.size wr (wr.drew.alloc (.cells #[.string ⟨#[]⟩, .string ⟨#[]⟩, .int .i64 0] 43)) := (Below.refl _ wr).drew.alloc (Nat.le_refl _) _
                      refine (HCALL.out _ hbA).mono ?_
                      rintro r w' ⟨rfl, hb⟩
                      have hrow : w'.heap[wr.heap.size]? = some (.cells #[.string ⟨#[]⟩, .string ⟨#[]⟩, .int .i64 0] 43 (0, 0)) := (hb.block _ (by simp)).trans (heap_alloc_new wr.drew _)
                      exact ⟨rfl, hbA.trans (hb.mono hbA.size), hrow, by rw [cell_of_row _ _ _ _ _ _ hrow]; rfl, by rw [cell_of_row _ _ _ _ _ _ hrow]; rfl, by rw [cell_of_row _ _ _ _ _ _ hrow]; rfl, fun i => by simp [World.frozen?, hrow], lt_of_heap hrow⟩
                    clear hat he ec hlm
                    go_upto_region 17 with fail
                    go_cut [10, 11] from 93 to 110 (fun x y wx => ElderE wr e x y wx)
                    case first => as_aux_lemma =>
                      have HKS : Hid (∀ W, Below wr.heap.size wr W → Below wr.heap.size wr W ∧ W.cell? ⟨w.heap.size, 0, none⟩ = some (.slice oa on oc) ∧ W.cell? ⟨xb, 8, none⟩ = some (.slice (some ⟨eg, eo, none⟩) xen x.entsS.cap) ∧ W.cell? ⟨eg, eo + m * 3, none⟩ = some (.string e.key) ∧ W.cell? ⟨eg, eo + m * 3 + 2, none⟩ = some (.int .i64 e.ver)) := fun W hW =>
                        ⟨hW, (hW.cell (p := ⟨w.heap.size, 0, none⟩) lp).trans q0, (hW.cell (p := ⟨xb, 8, none⟩) lx).trans x8, (HEC.out W hW).1, (HEC.out W hW).2.2.1⟩
                      clear q0 q1 q2 x5 x8 x9 e0 e1 e2 g1
                      go_region_held3 (fun W => Below wr.heap.size wr W ∧ W.cell? ⟨w.heap.size, 0, none⟩ = some (.slice oa on oc) ∧ W.cell? ⟨xb, 8, none⟩ = some (.slice (some ⟨eg, eo, none⟩) xen x.entsS.cap) ∧ W.cell? ⟨eg, eo + m * 3, none⟩ = some (.string e.key) ∧ W.cell? ⟨eg, eo + m * 3 + 2, none⟩ = some (.int .i64 e.ver)) (first | exact HKS.out _ (Below.refl _ wr).drew | exact HKS.out _ (drwThen HBB.out) | exact HKS.out _ ((drwThen HBB.out).alloc (drwThen HBB.out).size _) | exact HKS.out _ ((Below.refl _ wr).drew.alloc (Nat.le_refl _) _) | exact HKS.out _ HBC.out | exact HKS.out _ (store3 HBC.out _ _ _)) ((first | (go_at_call 10; refine (HCALL.out _ (Below.refl _ wr).drew).mono ?_; rintro r w' ⟨rfl, hb⟩; have HBB := Lib.hid hb; clear hb) | (go_at_call 10; refine HCALL2.out.mono ?_; rintro r w' ⟨rfl, hb, hrow, c0, c1, c2, fz, hlt2⟩; have HBC := Lib.hid hb; have HRW := Lib.hid hrow; clear hb hrow)))
                      all_goals (go_wp2_with fail; go_meet; first | exact elderE_new HBB.out | exact elderE_old HBC.out HRW.out)
                    case rest => as_aux_lemma =>
                      obtain ⟨yb, rfl, rfl, hrow, hb⟩ := hcut
                      have HBC : Hid (Below W1.heap.size W1 wc) := HV.out.trans (hb.mono HV.out.size)
                      clear q0 q1 q2 lp x5 x8 x9 lx g1 lg1 e0 e1 e2 heg
                      obtain ⟨x5, x8, x9, lx⟩ := HXB.out _ HBC.out
                      obtain ⟨e0, e1, e2, leg⟩ := HEC.out _ hb
                      have y0 : wc.cell? ⟨yb, 0, none⟩ = some (.string e.key) := by rw [cell_of_row _ _ _ _ _ _ hrow]; rfl
                      have y1 : wc.cell? ⟨yb, 1, none⟩ = some (.string e.value) := by rw [cell_of_row _ _ _ _ _ _ hrow]; rfl
                      have y2 : wc.cell? ⟨yb, 2, none⟩ = some (.int .i64 e.ver) := by rw [cell_of_row _ _ _ _ _ _ hrow]; rfl
                      have lyb := lt_of_heap hrow
                      have HND : Hid (∀ nq, Below W1.heap.size W1 (wc.drewN nq)) := fun nq => HBC.out.trans ⟨rfl, rfl, rfl, by simp, fun _ _ => rfl⟩
                      clear hrow hb HCALL HCALL2 HEC
                      go_wp2_with fail
                      go_quiet (fail)
                      go_wp2_with fail
                      exact ⟨⟨m + 1, by omega, by simp, HND.out _⟩, by simp [intOf]; omega⟩
                  · have hm1 : (m : Int) < (xen : Int) := by omega
                    go_wp2_with fail
                    go_meet
                    exact P2
                · have hm1 : ¬ (m : Int) < (xen : Int) := by omega
                  go_wp2_with fail
                  go_meet
                  exact P2
            case rest => as_aux_lemma =>
              have P2 := hcut
              clear P1 hcut
              go_wp2_with fail
              go_loopw [12] (fun i W => ∃ m : Nat, m ≤ j ∧ i = .int .i64 m ∧ Hid (Below W1.heap.size W1 W)) (fun i _ => j - (intOf i).toNat)
              case atStart => exact ⟨0, by omega, rfl, P2⟩
              case round => as_aux_lemma =>
                clear P2
                obtain ⟨m, hm, rfl, HV⟩ := hrel
                have HBV : Hid (Below W0.heap.size W0 wr) := HBL.out _ HV.out
                have HBw : Hid (Below w.heap.size w wr) := HB0.out.trans (HBV.out.mono HB0.out.size)
                obtain ⟨q0, q1, q2, lp⟩ := HPT.out _ HBV.out
                by_cases hlm : m < j
                · obtain ⟨y, hy⟩ : ∃ y, S[m]? = some y := ⟨_, List.getElem?_eq_getElem (by rw [← HSN.out]; omega)⟩
                  obtain ⟨gm, hgm⟩ : ∃ gm, G[m]? = some gm := ⟨_, List.getElem?_eq_getElem (by rw [← HGN.out]; omega)⟩
                  obtain ⟨sg', so', hss, hsg, yc⟩ := HLS.out.below HBw.out m y hy
                  obtain ⟨rfl, rfl⟩ : sg = sg' ∧ so = so' := by simpa using hss
                  obtain ⟨gg', go', hgo, hgg, gcl⟩ := HLG.out m gm hgm
                  obtain ⟨rfl, rfl⟩ : gg = gg' ∧ go = go' := by simpa using hgo
                  have HGM : Hid (∀ W, Below w.heap.size w W → W.cell? ⟨gg, go + m, none⟩ = some (.int .i64 gm) ∧ gg < W.heap.size) := fun W hb =>
                    ⟨(hb.cell (p := ⟨gg, _, none⟩) hgg).trans (by have h := gcl 0 _ rfl; simpa using h), Nat.lt_of_lt_of_le hgg hb.size⟩
                  have s0 : wr.cell? ⟨sg, so + m * 12, none⟩ = some (.int .i64 y.view) := yc 0 _ rfl
                  have s1 : wr.cell? ⟨sg, so + m * 12 + 1, none⟩ = some (.bool y.normal) := yc 1 _ rfl
                  have s2 : wr.cell? ⟨sg, so + m * 12 + 2, none⟩ = some (.int .i64 y.done) := yc 2 _ rfl
                  have s3 : wr.cell? ⟨sg, so + m * 12 + 3, none⟩ = some (.int .i64 y.stable) := yc 3 _ rfl
                  have s4 : wr.cell? ⟨sg, so + m * 12 + 4, none⟩ = some (.int .i64 y.pending) := yc 4 _ rfl
                  have s5 : wr.cell? ⟨sg, so + m * 12 + 5, none⟩ = some (.slice y.ranS.a y.ranS.n y.ranS.cap) := yc 5 _ rfl
                  have s6 : wr.cell? ⟨sg, so + m * 12 + 6, none⟩ = some (.slice y.saysS.a y.saysS.n y.saysS.cap) := yc 6 _ rfl
                  have s7 : wr.cell? ⟨sg, so + m * 12 + 7, none⟩ = some (.slice y.recsS.a y.recsS.n y.recsS.cap) := yc 7 _ rfl
                  have s8 : wr.cell? ⟨sg, so + m * 12 + 8, none⟩ = some (.slice y.entsS.a y.entsS.n y.entsS.cap) := yc 8 _ rfl
                  have s9 : wr.cell? ⟨sg, so + m * 12 + 9, none⟩ = some (.slice y.heldS.a y.heldS.n y.heldS.cap) := yc 9 _ rfl
                  have s10 : wr.cell? ⟨sg, so + m * 12 + 10, none⟩ = some (.slice y.piecesS.a y.piecesS.n y.piecesS.cap) := yc 10 _ rfl
                  have s11 : wr.cell? ⟨sg, so + m * 12 + 11, none⟩ = some (.slice y.movesS.a y.movesS.n y.movesS.cap) := yc 11 _ rfl
                  obtain ⟨hyi, _⟩ := HEA.out y (List.mem_of_getElem? hy)
                  have hyf := HSM.out.few.2.2.2 y (List.mem_of_getElem? hy)
                  obtain ⟨yra, hyra⟩ : ∃ z, z = y.ranS.a := ⟨_, rfl⟩
                  obtain ⟨yrn, hyrn⟩ : ∃ z, z = y.ran.length := ⟨_, rfl⟩
                  obtain ⟨yha, hyha⟩ : ∃ z, z = y.heldS.a := ⟨_, rfl⟩
                  obtain ⟨yhn, hyhn⟩ : ∃ z, z = y.held.length := ⟨_, rfl⟩
                  rw [hyi.ranN, ← hyra, ← hyrn] at s5
                  rw [hyi.heldN, ← hyha, ← hyhn] at s9
                  have HLyr : Hid (Lies w yra 2 ranL y.ran) := by show Lies _ _ _ _ _; rw [hyra]; exact hyi.ran
                  have HLyh : Hid (Lies w yha 5 helL y.held) := by show Lies _ _ _ _ _; rw [hyha]; exact hyi.held
                  have HNyr := Lib.hid hyrn
                  have HNyh := Lib.hid hyhn
                  have hyr9 : (yrn : Int) ≤ 1000 := by have := hyf.ran; omega
                  have hyh9 : (yhn : Int) ≤ 1000 := by have := hyf.held; omega
                  have HY := Lib.hid hy
                  have HG2 := Lib.hid hgm
                  obtain ⟨g2, lg2⟩ := HGM.out _ HBw.out
                  have hm0 : (0 : Int) ≤ (m : Int) := by omega
                  have hm1 : (m : Int) < (j : Int) := by omega
                  have hm2 : (m : Int) < (gn : Int) := by omega
                  have hm3 : (m : Int) < (sn : Int) := by omega
                  have hms : m + 1 ≤ j := hlm
                  have HMJ := Lib.hid hlm
                  obtain ⟨W2, hW2⟩ : ∃ W2, W2 = wr.alloc (.cells #[.int .i64 y.view, .bool y.normal, .int .i64 y.done, .int .i64 y.stable, .int .i64 y.pending, .slice yra yrn y.ranS.cap, .slice y.saysS.a y.saysS.n y.saysS.cap, .slice y.recsS.a y.recsS.n y.recsS.cap, .slice y.entsS.a y.entsS.n y.entsS.cap, .slice yha yhn y.heldS.cap, .slice y.piecesS.a y.piecesS.n y.piecesS.cap, .slice y.movesS.a y.movesS.n y.movesS.cap] 41) := ⟨_, rfl⟩
                  have HB2' : Hid (Below wr.heap.size wr W2) := by show Below _ _ _; rw [hW2]; exact (Below.refl _ wr).alloc (Nat.le_refl _) _
                  have HY2 : Hid (W2.heap[wr.heap.size]? = some (.cells #[.int .i64 y.view, .bool y.normal, .int .i64 y.done, .int .i64 y.stable, .int .i64 y.pending, .slice yra yrn y.ranS.cap, .slice y.saysS.a y.saysS.n y.saysS.cap, .slice y.recsS.a y.recsS.n y.recsS.cap, .slice y.entsS.a y.entsS.n y.entsS.cap, .slice yha yhn y.heldS.cap, .slice y.piecesS.a y.piecesS.n y.piecesS.cap, .slice y.movesS.a y.movesS.n y.movesS.cap] 41 (0, 0))) := by show _ = _; rw [hW2]; exact heap_alloc_new wr _
                  have HBL2 : Hid (∀ W, Below W2.heap.size W2 W → Below W1.heap.size W1 W) := fun W hb => HV.out.trans ((HB2'.out.trans (hb.mono HB2'.out.size)).mono HV.out.size)
                  have P3 : Hid (Below W2.heap.size W2 W2) := Below.refl _ _
                  have HBN2 : Hid (Below W1.heap.size W1 W2) := HBL2.out _ P3.out
                  clear hy hgm yc gcl hyi hyf hyra hyrn hyha hyhn hlm hss hgo hgg
                  by_cases hneg2 : gm < 0
                  · go_wp2_with fail
                    rw [← hW2]
                    exact ⟨⟨m + 1, by omega, by simp, HBN2⟩, by simp [intOf]; omega⟩
                  · go_wp2_with fail
                    obtain ⟨yb, hyb⟩ : ∃ z, z = wr.heap.size := ⟨_, rfl⟩
                    rw [← hW2, ← hyb]
                    rw [← hyb] at HY2
                    have HYB : Hid (∀ W, Below W2.heap.size W2 W → W.cell? ⟨yb, 5, none⟩ = some (.slice yra yrn y.ranS.cap) ∧ W.cell? ⟨yb, 9, none⟩ = some (.slice yha yhn y.heldS.cap) ∧ yb < W.heap.size) := fun W hb => by
                      have h := (hb.block _ (lt_of_heap HY2.out)).trans HY2.out
                      exact ⟨by rw [cell_of_row _ _ _ _ _ _ h]; rfl, by rw [cell_of_row _ _ _ _ _ _ h]; rfl, lt_of_heap h⟩
                    have HALL : Hid (∀ W, Below W2.heap.size W2 W → W.cell? ⟨w.heap.size, 1, none⟩ = some (.slice (some ⟨gg, go, none⟩) gn gc) ∧ w.heap.size < W.heap.size ∧ W.cell? ⟨gg, go + j, none⟩ = some (.int .i64 gj) ∧ W.cell? ⟨gg, go + m, none⟩ = some (.int .i64 gm) ∧ gg < W.heap.size ∧
                        W.cell? ⟨xb, 5, none⟩ = some (.slice xra xrn x.ranS.cap) ∧ W.cell? ⟨xb, 9, none⟩ = some (.slice xha xhn x.heldS.cap) ∧ xb < W.heap.size ∧ W.cell? ⟨yb, 5, none⟩ = some (.slice yra yrn y.ranS.cap) ∧ W.cell? ⟨yb, 9, none⟩ = some (.slice yha yhn y.heldS.cap) ∧ yb < W.heap.size ∧ Below w.heap.size w W) := fun W hb => by
                      have h1 := HBL2.out W hb
                      have h2 := HBL.out W h1
                      have h3 := HB0.out.trans (h2.mono HB0.out.size)
                      obtain ⟨_, a1, _, a2⟩ := HPT.out W h2
                      obtain ⟨b1, b2⟩ := HGJ.out W h3
                      obtain ⟨c1, _⟩ := HGM.out W h3
                      obtain ⟨d1, _, d2, d3⟩ := HXB.out W h1
                      obtain ⟨f1, f2, f3⟩ := HYB.out W hb
                      exact ⟨a1, a2, b1, c1, b2, d1, d2, d3, f1, f2, f3, h3⟩
                    clear hW2 hyb HY2 HB2' q0 q1 q2 lp g2 lg2 hsg s0 s1 s2 s3 s4 s5 s6 s7 s8 s9 s10 s11
                    go_loopw [14] (fun i W => ∃ p : Nat, p ≤ xrn ∧ i = .int .i64 p ∧ Hid (Below W2.heap.size W2 W)) (fun i _ => xrn - (intOf i).toNat)
                    case atStart => exact ⟨0, by omega, rfl, P3⟩
                    case round => as_aux_lemma =>
                      clear P3
                      obtain ⟨p, hp, rfl, HU⟩ := hrel
                      obtain ⟨q1, lp, g1, g2, lg, x5, x9, lx, y5, y9, ly, hbw⟩ := HALL.out _ HU.out
                      have HBu := Lib.hid hbw
                      clear hbw
                      have P4 : Hid (Below W2.heap.size W2 wr) := HU.out
                      by_cases hlp : p < xrn
                      · obtain ⟨r, hr⟩ : ∃ r, x.ran[p]? = some r := ⟨_, List.getElem?_eq_getElem (by rw [← HNxr.out]; exact hlp)⟩
                        obtain ⟨rg, ro, rfl, hrg, rcl⟩ := HLxr.out p r hr
                        have HRC : Hid (∀ W, Below w.heap.size w W → W.cell? ⟨rg, ro + p * 2, none⟩ = some (.int .i64 r.num) ∧ W.cell? ⟨rg, ro + p * 2 + 1, none⟩ = some (.int .i64 r.digest) ∧ rg < W.heap.size) := fun W hb =>
                          ⟨(hb.cell (p := ⟨rg, _, none⟩) hrg).trans (rcl 0 _ rfl), (hb.cell (p := ⟨rg, _, none⟩) hrg).trans (rcl 1 _ rfl), Nat.lt_of_lt_of_le hrg hb.size⟩
                        have HRM := Lib.hid (List.mem_of_getElem? hr)
                        have hp0 : (0 : Int) ≤ (p : Int) := by omega
                        have hp1 : (p : Int) < (xrn : Int) := by omega
                        have hps : p + 1 ≤ xrn := hlp
                        clear hr rcl hrg hlp
                        go_wp2_with fail
                        go_loopw [15] (fun i W => ∃ q : Nat, q ≤ yrn ∧ i = .int .i64 q ∧ Hid (Below W2.heap.size W2 W)) (fun i _ => yrn - (intOf i).toNat)
                        case atStart => exact ⟨0, by omega, rfl, P4⟩
                        case round => as_aux_lemma =>
                          clear P4 HU HBu q1 lp g1 g2 lg x5 x9 lx y5 y9 ly
                          obtain ⟨q, hq, rfl, HU⟩ := hrel
                          obtain ⟨q1, lp, g1, g2, lg, x5, x9, lx, y5, y9, ly, hbw⟩ := HALL.out _ HU.out
                          obtain ⟨r0, r1, lr⟩ := HRC.out _ hbw
                          have HBu := Lib.hid hbw
                          clear hbw
                          by_cases hlq : q < yrn
                          · obtain ⟨t, htt⟩ : ∃ t, y.ran[q]? = some t := ⟨_, List.getElem?_eq_getElem (by rw [← HNyr.out]; exact hlq)⟩
                            obtain ⟨tg, tof, rfl, htg, tcl⟩ := HLyr.out.below HBu.out q t htt
                            have t0 : wr.cell? ⟨tg, tof + q * 2, none⟩ = some (.int .i64 t.num) := tcl 0 _ rfl
                            have t1 : wr.cell? ⟨tg, tof + q * 2 + 1, none⟩ = some (.int .i64 t.digest) := tcl 1 _ rfl
                            have HTM := Lib.hid (List.mem_of_getElem? htt)
                            have hq0 : (0 : Int) ≤ (q : Int) := by omega
                            have hq1 : (q : Int) < (yrn : Int) := by omega
                            have hqs : q + 1 ≤ yrn := hlq
                            have HND : Hid (∀ nq, Below W2.heap.size W2 (wr.drewN nq)) := fun nq => HU.out.trans ⟨rfl, rfl, rfl, by simp, fun _ _ => rfl⟩
                            clear htt tcl hlq
                            by_cases hge : gj = gm
                            · have hge1 : (gj == gm) = true := by simpa using hge
                              by_cases hne : r.num = t.num
                              · have hne1 : (r.num == t.num) = true := by simpa using hne
                                have hdd : (r.digest != t.digest) = false := by
                                  have := fair_ran HCL.out HMJ.out HG1.out HG2.out HX.out HY.out (by omega) (by omega) HRM.out HTM.out hge hne
                                  simpa using this
                                clear hge hne
                                go_wp2_with fail
                                go_quiet (fail)
                                go_wp2_with fail
                                exact ⟨⟨q + 1, by omega, by simp, HND.out _⟩, by simp [intOf]; omega⟩
                              · have hne1 : (r.num == t.num) = false := by simpa using hne
                                clear hge hne
                                go_wp2_with fail
                                go_quiet (fail)
                                go_wp2_with fail
                                exact ⟨⟨q + 1, by omega, by simp, HND.out _⟩, by simp [intOf]; omega⟩
                            · have hge1 : (gj == gm) = false := by simpa using hge
                              clear hge
                              go_wp2_with fail
                              go_quiet (fail)
                              go_wp2_with fail
                              exact ⟨⟨q + 1, by omega, by simp, HND.out _⟩, by simp [intOf]; omega⟩
                          · obtain rfl : q = yrn := by omega
                            go_wp2_with fail
                            exact ⟨⟨p + 1, by omega, by simp, HU⟩, by simp [intOf]; omega⟩
                      · obtain rfl : p = xrn := by omega
                        go_wp2_with fail
                        go_loopw [16] (fun i W => ∃ p : Nat, p ≤ xhn ∧ i = .int .i64 p ∧ Hid (Below W2.heap.size W2 W)) (fun i _ => xhn - (intOf i).toNat)
                        case atStart => exact ⟨0, by omega, rfl, P4⟩
                        case round => as_aux_lemma =>
                          clear P4 HU HBu q1 lp g1 g2 lg x5 x9 lx y5 y9 ly
                          obtain ⟨p, hp, rfl, HU⟩ := hrel
                          obtain ⟨q1, lp, g1, g2, lg, x5, x9, lx, y5, y9, ly, hbw⟩ := HALL.out _ HU.out
                          have HBu := Lib.hid hbw
                          clear hbw
                          have P5 : Hid (Below W2.heap.size W2 wr) := HU.out
                          by_cases hlp : p < xhn
                          · obtain ⟨r, hr⟩ : ∃ r, x.held[p]? = some r := ⟨_, List.getElem?_eq_getElem (by rw [← HNxh.out]; exact hlp)⟩
                            obtain ⟨rg, ro, rfl, hrg, rcl⟩ := HLxh.out p r hr
                            have HRC : Hid (∀ W, Below w.heap.size w W → W.cell? ⟨rg, ro + p * 5, none⟩ = some (.string r.frm) ∧ W.cell? ⟨rg, ro + p * 5 + 1, none⟩ = some (.string r.upto) ∧ W.cell? ⟨rg, ro + p * 5 + 2, none⟩ = some (.int .i64 r.epoch) ∧ W.cell? ⟨rg, ro + p * 5 + 3, none⟩ = some (.bool r.frozen) ∧ W.cell? ⟨rg, ro + p * 5 + 4, none⟩ = some (.int .i64 r.target) ∧ rg < W.heap.size) := fun W hb =>
                              ⟨(hb.cell (p := ⟨rg, _, none⟩) hrg).trans (rcl 0 _ rfl), (hb.cell (p := ⟨rg, _, none⟩) hrg).trans (rcl 1 _ rfl), (hb.cell (p := ⟨rg, _, none⟩) hrg).trans (rcl 2 _ rfl), (hb.cell (p := ⟨rg, _, none⟩) hrg).trans (rcl 3 _ rfl), (hb.cell (p := ⟨rg, _, none⟩) hrg).trans (rcl 4 _ rfl), Nat.lt_of_lt_of_le hrg hb.size⟩
                            have HRM := Lib.hid (List.mem_of_getElem? hr)
                            have hp0 : (0 : Int) ≤ (p : Int) := by omega
                            have hp1 : (p : Int) < (xhn : Int) := by omega
                            have hps : p + 1 ≤ xhn := hlp
                            clear hr rcl hrg hlp
                            go_wp2_with fail
                            go_loopw [17] (fun i W => ∃ q : Nat, q ≤ yhn ∧ i = .int .i64 q ∧ Hid (Below W2.heap.size W2 W)) (fun i _ => yhn - (intOf i).toNat)
                            case atStart => exact ⟨0, by omega, rfl, P5⟩
                            case round => as_aux_lemma =>
                              clear P5 HU HBu q1 lp g1 g2 lg x5 x9 lx y5 y9 ly
                              obtain ⟨q, hq, rfl, HU⟩ := hrel
                              obtain ⟨q1, lp, g1, g2, lg, x5, x9, lx, y5, y9, ly, hbw⟩ := HALL.out _ HU.out
                              have HBu := Lib.hid hbw
                              clear hbw
                              have P6 : Hid (Below W2.heap.size W2 wr) := HU.out
                              by_cases hlq : q < yhn
                              · obtain ⟨t, htt⟩ : ∃ t, y.held[q]? = some t := ⟨_, List.getElem?_eq_getElem (by rw [← HNyh.out]; exact hlq)⟩
                                obtain ⟨tg, tof, rfl, htg, tcl⟩ := HLyh.out.below HBu.out q t htt
                                have HTC : Hid (∀ W, Below wr.heap.size wr W → W.cell? ⟨tg, tof + q * 5, none⟩ = some (.string t.frm) ∧ W.cell? ⟨tg, tof + q * 5 + 1, none⟩ = some (.string t.upto) ∧ W.cell? ⟨tg, tof + q * 5 + 2, none⟩ = some (.int .i64 t.epoch) ∧ W.cell? ⟨tg, tof + q * 5 + 3, none⟩ = some (.bool t.frozen) ∧ W.cell? ⟨tg, tof + q * 5 + 4, none⟩ = some (.int .i64 t.target) ∧ tg < W.heap.size) := fun W hb =>
                                  ⟨(hb.cell (p := ⟨tg, _, none⟩) htg).trans (tcl 0 _ rfl), (hb.cell (p := ⟨tg, _, none⟩) htg).trans (tcl 1 _ rfl), (hb.cell (p := ⟨tg, _, none⟩) htg).trans (tcl 2 _ rfl), (hb.cell (p := ⟨tg, _, none⟩) htg).trans (tcl 3 _ rfl), (hb.cell (p := ⟨tg, _, none⟩) htg).trans (tcl 4 _ rfl), Nat.lt_of_lt_of_le htg hb.size⟩
                                have HTM := Lib.hid (List.mem_of_getElem? htt)
                                have hq0 : (0 : Int) ≤ (q : Int) := by omega
                                have hq1 : (q : Int) < (yhn : Int) := by omega
                                have hqs : q + 1 ≤ yhn := hlq
                                obtain ⟨V, hV⟩ : ∃ V, V = wr := ⟨_, rfl⟩
                                rw [← hV] at HTC P6
                                have HVB : Hid (Below W2.heap.size W2 V) := by show Below _ _ _; rw [hV]; exact HU.out
                                have P7 : Hid (Below V.heap.size V wr) := by show Below _ _ _; rw [hV]; exact Below.refl _ _
                                clear htt tcl hlq htg hV P6
                                go_wp2_with fail
                                go_loopw [18] (fun i W => ∃ z : Nat, z ≤ kn ∧ i = .int .i64 z ∧ Hid (Below V.heap.size V W)) (fun i _ => kn - (intOf i).toNat)
                                case atStart => exact ⟨0, by omega, rfl, P7⟩
                                case round => as_aux_lemma =>
                                  clear P7 HU HBu q1 lp g1 g2 lg x5 x9 lx y5 y9 ly
                                  obtain ⟨z, hz, rfl, HU⟩ := hrel
                                  have HUW : Hid (Below W2.heap.size W2 wr) := HVB.out.trans (HU.out.mono HVB.out.size)
                                  by_cases hlz : z < kn
                                  · obtain ⟨k, hkk⟩ : ∃ k, K[z]? = some k := ⟨_, List.getElem?_eq_getElem (by rw [← HKN.out]; exact hlz)⟩
                                    obtain ⟨kg, ko, rfl, hkg, kcl⟩ := HK.out z k hkk
                                    have HAX := fun X : Later wr => HALL.out X.1 (HUW.out.trans (X.2.mono HUW.out.size))
                                    have HTX := fun X : Later wr => HTC.out X.1 (HU.out.trans (X.2.mono HU.out.size))
                                    have HRX := fun X : Later wr => HRC.out X.1 (HAX X).2.2.2.2.2.2.2.2.2.2.2
                                    have k0 : ∀ X : Later wr, X.1.cell? ⟨kg, ko + z, none⟩ = some (.string k) := fun X => ((HAX X).2.2.2.2.2.2.2.2.2.2.2.cell (p := ⟨kg, _, none⟩) hkg).trans (by have h := kcl 0 _ rfl; simpa using h)
                                    have q1 := fun X => (HAX X).1
                                    have g1 := fun X => (HAX X).2.2.1
                                    have g2 := fun X => (HAX X).2.2.2.1
                                    have x9 := fun X => (HAX X).2.2.2.2.2.2.1
                                    have y9 := fun X => (HAX X).2.2.2.2.2.2.2.2.2.1
                                    have r0 := fun X => (HRX X).1
                                    have r1 := fun X => (HRX X).2.1
                                    have r2 := fun X => (HRX X).2.2.1
                                    have r3 := fun X => (HRX X).2.2.2.1
                                    have r4 := fun X => (HRX X).2.2.2.2.1
                                    have t0 := fun X => (HTX X).1
                                    have t1 := fun X => (HTX X).2.1
                                    have t2 := fun X => (HTX X).2.2.1
                                    have t3 := fun X => (HTX X).2.2.2.1
                                    have t4 := fun X => (HTX X).2.2.2.2.1
                                    have HQ1 : Hid (∀ X : Later wr, Calls Try.prog 11 #[.agg #[.string r.frm, .string r.upto, .int .i64 r.epoch, .bool r.frozen, .int .i64 r.target], .string k] X.1 fun e w' => e = .returned (.bool (inB r k)) ∧ ∃ Y : Later wr, w' = Y.1) := fun X => later_call (in_11 r k X.1)
                                    have HQ2 : Hid (∀ X : Later wr, Calls Try.prog 11 #[.agg #[.string t.frm, .string t.upto, .int .i64 t.epoch, .bool t.frozen, .int .i64 t.target], .string k] X.1 fun e w' => e = .returned (.bool (inB t k)) ∧ ∃ Y : Later wr, w' = Y.1) := fun X => later_call (in_11 t k X.1)
                                    have HND : Hid (∀ X : Later wr, Below V.heap.size V X.1) := fun X => HU.out.trans (X.2.mono HU.out.size)
                                    have hz0 : (0 : Int) ≤ (z : Int) := by omega
                                    have hz1 : (z : Int) < (kn : Int) := by omega
                                    have hzs : z + 1 ≤ kn := hlz
                                    have lx := (HAX ⟨wr, Below.refl _ _⟩).2.2.2.2.2.2.2.1
                                    clear hkk kcl HAX HTX HRX hlz hkg lx
                                    by_cases hge : gj = gm
                                    · have w1 : (gj != gm) = false := by simpa using hge
                                      clear hge
                                      as_aux_lemma =>
                                        go_wp2_with fail
                                        have here := Later.here wr
                                        refine wp_region_later (by kernel_rfl) (by kernel_rfl) ?_
                                        repeat (go_big_quiet_step ((go_at_call 11; first | with_reducible exact HQ1.out _ | with_reducible exact HQ2.out _)))
                                        with_reducible refine wpQuiet_nil ?_
                                        intro X
                                        go_wp2_with fail
                                        exact ⟨⟨z + 1, by omega, by simp, HND.out X⟩, by simp [intOf]; omega⟩
                                    · have w1 : (gj != gm) = true := by simpa using hge
                                      cases w2 : decide (0 < gj) with
                                      | false =>
                                        clear hge
                                        as_aux_lemma =>
                                          go_wp2_with fail
                                          have here := Later.here wr
                                          refine wp_region_later (by kernel_rfl) (by kernel_rfl) ?_
                                          repeat (go_big_quiet_step ((go_at_call 11; first | with_reducible exact HQ1.out _ | with_reducible exact HQ2.out _)))
                                          with_reducible refine wpQuiet_nil ?_
                                          intro X
                                          go_wp2_with fail
                                          exact ⟨⟨z + 1, by omega, by simp, HND.out X⟩, by simp [intOf]; omega⟩
                                      | true =>
                                        cases w3 : decide (0 < gm) with
                                        | false =>
                                          clear hge
                                          as_aux_lemma =>
                                            go_wp2_with fail
                                            have here := Later.here wr
                                            refine wp_region_later (by kernel_rfl) (by kernel_rfl) ?_
                                            repeat (go_big_quiet_step ((go_at_call 11; first | with_reducible exact HQ1.out _ | with_reducible exact HQ2.out _)))
                                            with_reducible refine wpQuiet_nil ?_
                                            intro X
                                            go_wp2_with fail
                                            exact ⟨⟨z + 1, by omega, by simp, HND.out X⟩, by simp [intOf]; omega⟩
                                        | true =>
                                          cases w4 : r.frozen with
                                          | true =>
                                            rw [w4] at r3 HQ1
                                            clear hge w4
                                            as_aux_lemma =>
                                              go_wp2_with fail
                                              have here := Later.here wr
                                              refine wp_region_later (by kernel_rfl) (by kernel_rfl) ?_
                                              repeat (go_big_quiet_step ((go_at_call 11; first | with_reducible exact HQ1.out _ | with_reducible exact HQ2.out _)))
                                              with_reducible refine wpQuiet_nil ?_
                                              intro X
                                              go_wp2_with fail
                                              exact ⟨⟨z + 1, by omega, by simp, HND.out X⟩, by simp [intOf]; omega⟩
                                          | false =>
                                            cases w5 : t.frozen with
                                            | true =>
                                              rw [w4] at r3 HQ1
                                              rw [w5] at t3 HQ2
                                              clear hge w4 w5
                                              as_aux_lemma =>
                                                go_wp2_with fail
                                                have here := Later.here wr
                                                refine wp_region_later (by kernel_rfl) (by kernel_rfl) ?_
                                                repeat (go_big_quiet_step ((go_at_call 11; first | with_reducible exact HQ1.out _ | with_reducible exact HQ2.out _)))
                                                with_reducible refine wpQuiet_nil ?_
                                                intro X
                                                go_wp2_with fail
                                                exact ⟨⟨z + 1, by omega, by simp, HND.out X⟩, by simp [intOf]; omega⟩
                                            | false =>
                                              by_cases he : r.epoch = t.epoch
                                              · have w6 : (r.epoch == t.epoch) = true := by simpa using he
                                                cases w7 : inB r k with
                                                | true =>
                                                  have w8 := fair_own HCL.out HMJ.out HG1.out HG2.out HX.out HY.out (of_decide_eq_true w2) (of_decide_eq_true w3) HRM.out HTM.out hge w4 w5 he w7
                                                  rw [w4, w7] at HQ1
                                                  rw [w5, w8] at HQ2
                                                  rw [w4] at r3
                                                  rw [w5] at t3
                                                  clear hge w4 w5 he w7 w8
                                                  as_aux_lemma =>
                                                    go_wp2_with fail
                                                    have here := Later.here wr
                                                    refine wp_region_later (by kernel_rfl) (by kernel_rfl) ?_
                                                    repeat (go_big_quiet_step ((go_at_call 11; first | with_reducible exact HQ1.out _ | with_reducible exact HQ2.out _)))
                                                    with_reducible refine wpQuiet_nil ?_
                                                    intro X
                                                    go_wp2_with fail
                                                    exact ⟨⟨z + 1, by omega, by simp, HND.out X⟩, by simp [intOf]; omega⟩
                                                | false =>
                                                  rw [w4, w7] at HQ1
                                                  rw [w4] at r3
                                                  rw [w5] at t3 HQ2
                                                  clear hge w4 w5 he w7
                                                  as_aux_lemma =>
                                                    go_wp2_with fail
                                                    have here := Later.here wr
                                                    refine wp_region_later (by kernel_rfl) (by kernel_rfl) ?_
                                                    repeat (go_big_quiet_step ((go_at_call 11; first | with_reducible exact HQ1.out _ | with_reducible exact HQ2.out _)))
                                                    with_reducible refine wpQuiet_nil ?_
                                                    intro X
                                                    go_wp2_with fail
                                                    exact ⟨⟨z + 1, by omega, by simp, HND.out X⟩, by simp [intOf]; omega⟩
                                              · have w6 : (r.epoch == t.epoch) = false := by simpa using he
                                                rw [w4] at r3 HQ1
                                                rw [w5] at t3 HQ2
                                                clear hge w4 w5 he
                                                as_aux_lemma =>
                                                  go_wp2_with fail
                                                  have here := Later.here wr
                                                  refine wp_region_later (by kernel_rfl) (by kernel_rfl) ?_
                                                  repeat (go_big_quiet_step ((go_at_call 11; first | with_reducible exact HQ1.out _ | with_reducible exact HQ2.out _)))
                                                  with_reducible refine wpQuiet_nil ?_
                                                  intro X
                                                  go_wp2_with fail
                                                  exact ⟨⟨z + 1, by omega, by simp, HND.out X⟩, by simp [intOf]; omega⟩
                                  · obtain rfl : z = kn := by omega
                                    go_wp2_with fail
                                    exact ⟨⟨q + 1, by omega, by simp, HUW⟩, by simp [intOf]; omega⟩
                              · obtain rfl : q = yhn := by omega
                                go_wp2_with fail
                                exact ⟨⟨p + 1, by omega, by simp, HU⟩, by simp [intOf]; omega⟩
                          · obtain rfl : p = xhn := by omega
                            have HUE : Hid (Below W1.heap.size W1 wr) := HBL2.out _ HU.out
                            go_wp2_with fail
                            exact ⟨⟨m + 1, by omega, by simp, HUE⟩, by simp [intOf]; omega⟩
                · obtain rfl : m = j := by omega
                  have HBE : Hid (Below W0.heap.size W0 wr) := HBV.out
                  go_wp2_with fail
                  exact ⟨⟨m + 1, by omega, by simp, HBE⟩, by simp [intOf]; omega⟩
        · obtain rfl : j = sn := by omega
          go_wp2_with fail
          go_ret
          exact ⟨rfl, HBW.out⟩
    · have hf1 : (f != 0) = true := by simpa using hf0
      obtain ⟨_, h5, h6⟩ := judge_fault HV.out
      have h7 : decide ((1 : Int) ≤ f) = true := decide_eq_true (by simp only at h5; omega)
      have h8 : decide (f ≤ (5 : Int)) = true := decide_eq_true (by simpa using h6)
      clear hf0 h5 h6
      go_wp2_with fail
      go_ret
      exact ⟨rfl, HBA.out _⟩
end Go.Proofs.Ytpcmkifgfokdpaa
