/- Txn: what may be a transaction: its writes. -/
import Derived.Test.YtaifmfnmgnmgbaaGreatDoorTxRkey
import Derived.Test.YtaifmfnmgnmgbaaGreatDoorBase
import Derived.WalkLawsBesides
import Derived.BigQuiet
import Derived.Deep.QuietTactic
namespace Go.Proofs.YtaifmfnmgnmgbaaGreatDoor.Txn
open Go.RowKit Go.My

set_option maxRecDepth 100000 in
set_option maxHeartbeats 6400000 in
theorem rises_wr (a : Option Addr) (cap : Nat) (l : List Wr) (w : World) (hl : LiesAt w a 2 wrL l) (hm : l.length ≤ 100000) :
    Calls Tryz.prog 71 #[.slice a l.length cap, .func (.func 48) #[] #[], .func (.func 72) #[] #[]] w (BoolL w (risesW l)) := by
  have HL := Lib.hid hl
  obtain ⟨n, hn⟩ : ∃ n, n = l.length := ⟨_, rfl⟩
  have HN := Lib.hid hn
  rw [← hn] at hm ⊢
  have hn9 : (n : Int) ≤ 100000 := by omega
  have P0 : Hid ((∀ k, k < 0 → okW l k = true) ∧ Below w.heap.size w w) := ⟨fun k hk => by omega, Below.refl _ _⟩
  clear hl hn
  go_enter Tryz.func71, Tryz.ntmps71
  go_wp2_with fail
  go_loopw [11] (fun i wr => ∃ j : Nat, j ≤ n ∧ i = .int .i64 j ∧ Hid ((∀ k, k < j → okW l k = true) ∧ Below w.heap.size w wr)) (fun i _ => n - (intOf i).toNat)
  case atStart => exact ⟨0, by omega, rfl, P0⟩
  case round =>
    clear P0
    obtain ⟨j, hj, rfl, HJ⟩ := hrel
    by_cases hlt : j < n
    · obtain ⟨⟨xk, xv⟩, hx⟩ : ∃ x, l[j]? = some x := ⟨_, List.getElem?_eq_getElem (by rw [← HN.out]; exact hlt)⟩
      obtain ⟨g, o, rfl, lg, hcl⟩ := (HL.out.below HJ.out.2) j _ hx
      have k0 := hcl 0 _ rfl
      have k1 := hcl 1 _ rfl
      simp only [Nat.add_zero] at k0 k1
      have HXJ := Lib.hid hx
      have hj0 : (0 : Int) ≤ (j : Int) := by omega
      have hj1 : (j : Int) < (n : Int) := by omega
      obtain ⟨W, hW⟩ : ∃ W : World, W = wr.alloc (.cells #[.string xk, .string xv] 48) := ⟨_, rfl⟩
      obtain ⟨q, hq⟩ : ∃ q, q = wr.heap.size := ⟨_, rfl⟩
      have hb : Below wr.heap.size wr W := by rw [hW]; exact bl_alloc _ _
      have hbx : W.heap[q]? = some (.cells #[.string xk, .string xv] 48 (0, 0)) := by rw [hW, hq]; exact heap_alloc_new wr _
      have e0 : ∀ X : Later W, X.1.cell? ⟨q, 0, none⟩ = some (.string xk) := fun X => by rw [X.cell (lt_of_heap hbx), cell_of_row _ _ _ _ _ _ hbx]; rfl
      have e1 : ∀ X : Later W, X.1.cell? ⟨q, 1, none⟩ = some (.string xv) := fun X => by rw [X.cell (lt_of_heap hbx), cell_of_row _ _ _ _ _ _ hbx]; rfl
      have HB := Lib.hid (HJ.out.2.trans (hb.mono HJ.out.2.size))
      have HWW : Hid (wr.alloc (.cells #[.string xk, .string xv] 48) = W ∧ wr.heap.size = q) := ⟨hW.symm, hq.symm⟩
      have HK1 : Hid (∀ X : World, Calls Tryz.prog 48 #[.agg #[.string xk, .string xv]] X (KeyL X xk)) := fun X => written_key xk xv X
      obtain ⟨rb, hrb⟩ : ∃ rb : Bool, rb = (decide (xv.size ≤ 64)) := ⟨_, rfl⟩
      have HK3 : Hid (∀ X : World, Calls Tryz.prog 72 #[.agg #[.string xk, .string xv]] X (BoolL X rb)) := fun X => by rw [hrb]; exact right_wr xk xv X
      have HRB := Lib.hid hrb
      have HK2 := Lib.hid True.intro
      have HGT : Hid (∀ X : Later W, Below w.heap.size w X.1) := fun X => HB.out.trans (X.2.mono HB.out.size)
      clear hx hW hq hb hbx hrb
      by_cases hs : 16 < xk.size
      · have hs2 : (16 : Int) < (xk.size : Int) := by omega
        have HF : Hid (risesW l = false) := okW_no (i := j) (by rw [← HN.out]; exact hlt) (by unfold okW; rw [HXJ.out]; simp; omega)
        rw [HF.out]
        clear hcl lg
        go_upto_region 4 with fail
        rw [HWW.out.1, HWW.out.2]
        have here := Later.here W
        refine wp_region_later (by kernel_rfl) (by kernel_rfl) ?_
        iterate 28 (with_reducible refine wpQuiet_step (fun K hK => ?_); go_simp; first | (refine hK _ ?_; clear hK K) | (rw [if_neg (by decide)]; refine hK _ ?_; clear hK K) | (apply Exists.intro; refine ⟨fun X => ?_, hK _ ?_⟩; (first | (go_at_call 48; first | with_reducible exact later_call (HK1.out _) | with_reducible exact later_call (HK2.out _)) | (go_at_call 72; with_reducible exact later_call (HK3.out _))); clear hK K))
        with_reducible refine wpQuiet_nil ?_
        intro X
        go_wp2_with fail
        go_ret
        exact ⟨rfl, HGT.out _⟩
      · have hs2 : ¬ (16 : Int) < (xk.size : Int) := by omega
        cases rb with
        | false =>
          have HF : Hid (risesW l = false) := okW_no (i := j) (by rw [← HN.out]; exact hlt) (by unfold okW; rw [HXJ.out]; simp only; rw [← HRB.out]; simp)
          rw [HF.out]
          clear hcl lg
          go_upto_region 4 with fail
          rw [HWW.out.1, HWW.out.2]
          have here := Later.here W
          refine wp_region_later (by kernel_rfl) (by kernel_rfl) ?_
          iterate 28 (with_reducible refine wpQuiet_step (fun K hK => ?_); go_simp; first | (refine hK _ ?_; clear hK K) | (rw [if_neg (by decide)]; refine hK _ ?_; clear hK K) | (apply Exists.intro; refine ⟨fun X => ?_, hK _ ?_⟩; (first | (go_at_call 48; first | with_reducible exact later_call (HK1.out _) | with_reducible exact later_call (HK2.out _)) | (go_at_call 72; with_reducible exact later_call (HK3.out _))); clear hK K))
          with_reducible refine wpQuiet_nil ?_
          intro X
          go_wp2_with fail
          go_ret
          exact ⟨rfl, HGT.out _⟩
        | true =>
          rcases Nat.eq_zero_or_pos j with hz | hz
          · subst hz
            simp only [Nat.zero_mul, Nat.add_zero] at k0 k1
            have HOK : Hid (okW l 0 = true) := by show _ = _; unfold okW; rw [HXJ.out]; simp only; rw [← HRB.out]; simp; omega
            clear hcl lg
            go_upto_region 4 with fail
            rw [HWW.out.1, HWW.out.2]
            have here := Later.here W
            refine wp_region_later (by kernel_rfl) (by kernel_rfl) ?_
            iterate 28 (with_reducible refine wpQuiet_step (fun K hK => ?_); go_simp; first | (refine hK _ ?_; clear hK K) | (rw [if_neg (by decide)]; refine hK _ ?_; clear hK K) | (apply Exists.intro; refine ⟨fun X => ?_, hK _ ?_⟩; (first | (go_at_call 48; first | with_reducible exact later_call (HK1.out _) | with_reducible exact later_call (HK2.out _)) | (go_at_call 72; with_reducible exact later_call (HK3.out _))); clear hK K))
            with_reducible refine wpQuiet_nil ?_
            intro X
            go_wp2_with fail
            exact ⟨⟨1, by omega, by simp, fun k hk => by have : k = 0 := by omega
                                                         rw [this]; exact HOK.out, HGT.out _⟩, by simp [intOf]; omega⟩
          · obtain ⟨p, HP⟩ : ∃ p, Hid (p + 1 = j) := ⟨j - 1, by show _ = _; omega⟩
            obtain ⟨⟨yk, yv⟩, hy⟩ : ∃ y, l[p]? = some y := ⟨_, List.getElem?_eq_getElem (by have := HP.out; rw [← HN.out]; omega)⟩
            obtain ⟨g', o', he, lg', hcl'⟩ := (HL.out.below HJ.out.2) p _ hy
            cases he
            have m0 := hcl' 0 _ rfl
            have m1 := hcl' 1 _ rfl
            simp only [Nat.add_zero] at m0 m1
            have HY := Lib.hid hy
            have hlw : wr.heap.size ≤ W.heap.size := by have := HWW.out.1; rw [← this]; simp
            have hbw : Below wr.heap.size wr W := by have := HWW.out.1; rw [← this]; exact bl_alloc _ _
            have x0 : ∀ X : Later W, X.1.cell? ⟨g, o + p * 2, none⟩ = some (.string yk) := fun X => by rw [X.cell (Nat.lt_of_lt_of_le lg hlw)]; exact (hbw.cell (p := ⟨g, o + p * 2, none⟩) lg).trans m0
            have x1 : ∀ X : Later W, X.1.cell? ⟨g, o + p * 2 + 1, none⟩ = some (.string yv) := fun X => by rw [X.cell (Nat.lt_of_lt_of_le lg hlw)]; exact (hbw.cell (p := ⟨g, o + p * 2 + 1, none⟩) lg).trans m1
            have q0 : (0 : Int) ≤ (p : Int) := by omega
            have q1 : (p : Int) < (n : Int) := by have := HP.out; omega
            have q2 : IntKind.i64.wrap ((j : Int) - 1) = (p : Int) := by rw [show (j : Int) - 1 = (p : Int) by have := HP.out; omega]; exact IntWalk.i64_in _ (by omega)
            have q3 : (0 : Int) < (j : Int) := by omega
            obtain ⟨lb, hlb⟩ : ∃ lb, Op.bytesLess yk.toList xk.toList = lb := ⟨_, rfl⟩
            have HK2 : Hid (∀ X : World, Calls Tryz.prog 48 #[.agg #[.string yk, .string yv]] X (KeyL X yk)) := fun X => written_key yk yv X
            have HOK : Hid (okW l j = lb) := by
              show _ = _
              unfold okW
              rw [HXJ.out]
              simp only
              rw [← HRB.out, show j - 1 = p by have := HP.out; omega, HY.out]
              simp only
              rw [hlb, decide_eq_false (by omega : ¬ j = 0), decide_eq_true (by omega : xk.size ≤ 16)]
              simp
            clear hcl lg hcl' lg' hy m0 m1 hlw hbw q3
            cases lb with
            | true =>
              go_upto_region 4 with fail
              rw [HWW.out.1, HWW.out.2]
              have here := Later.here W
              refine wp_region_later (by kernel_rfl) (by kernel_rfl) ?_
              iterate 28 (with_reducible refine wpQuiet_step (fun K hK => ?_); go_simp; first | (refine hK _ ?_; clear hK K) | (rw [if_neg (by decide)]; refine hK _ ?_; clear hK K) | (apply Exists.intro; refine ⟨fun X => ?_, hK _ ?_⟩; (first | (go_at_call 48; first | with_reducible exact later_call (HK1.out _) | with_reducible exact later_call (HK2.out _)) | (go_at_call 72; with_reducible exact later_call (HK3.out _))); clear hK K))
              with_reducible refine wpQuiet_nil ?_
              intro X
              go_wp2_with fail
              exact ⟨⟨j + 1, by omega, by simp, fun k hk => by
                rcases Nat.lt_or_ge k j with h | h
                · exact HJ.out.1 k h
                · have : k = j := by omega
                  rw [this]; exact HOK.out, HGT.out _⟩, by simp [intOf]; omega⟩
            | false =>
              have HF : Hid (risesW l = false) := okW_no (i := j) (by rw [← HN.out]; exact hlt) HOK.out
              rw [HF.out]
              go_upto_region 4 with fail
              rw [HWW.out.1, HWW.out.2]
              have here := Later.here W
              refine wp_region_later (by kernel_rfl) (by kernel_rfl) ?_
              iterate 28 (with_reducible refine wpQuiet_step (fun K hK => ?_); go_simp; first | (refine hK _ ?_; clear hK K) | (rw [if_neg (by decide)]; refine hK _ ?_; clear hK K) | (apply Exists.intro; refine ⟨fun X => ?_, hK _ ?_⟩; (first | (go_at_call 48; first | with_reducible exact later_call (HK1.out _) | with_reducible exact later_call (HK2.out _)) | (go_at_call 72; with_reducible exact later_call (HK3.out _))); clear hK K))
              with_reducible refine wpQuiet_nil ?_
              intro X
              go_wp2_with fail
              go_ret
              exact ⟨rfl, HGT.out _⟩
    · obtain rfl : j = n := by omega
      have HF : Hid (risesW l = decide (l.length ≤ 8)) := okW_all fun i hi => HJ.out.1 i (by rw [HN.out]; exact hi)
      by_cases h8 : j ≤ 8
      · have g8 : (j : Int) ≤ 8 := by omega
        have HF2 : Hid (risesW l = true) := by show _ = _; rw [HF.out]; exact decide_eq_true (by rw [← HN.out]; exact h8)
        go_wp2_with fail
        go_ret
        exact ⟨by rw [HF2.out]; rfl, HJ.out.2⟩
      · have g8 : ¬ (j : Int) ≤ 8 := by omega
        have HF2 : Hid (risesW l = false) := by show _ = _; rw [HF.out]; exact decide_eq_false (by rw [← HN.out]; exact h8)
        go_wp2_with fail
        go_ret
        exact ⟨by rw [HF2.out]; rfl, HJ.out.2⟩
end Go.Proofs.YtaifmfnmgnmgbaaGreatDoor.Txn
