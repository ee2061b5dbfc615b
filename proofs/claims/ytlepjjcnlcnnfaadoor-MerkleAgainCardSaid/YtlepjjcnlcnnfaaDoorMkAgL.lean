/- Merkle: MerkleAgain. -/
import Derived.Test.YtlepjjcnlcnnfaaDoorMkAg
namespace Go.Proofs.YtlepjjcnlcnnfaaDoor.Merkle
open Go.RowKit Go.My

set_option maxRecDepth 100000 in
set_option maxHeartbeats 6400000 in
theorem againlaw_any (a : Option Addr) (cap : Nat) (l : List Ent) (a9 : Option Addr) (cap9 : Nat) (o : List Ent) (key : ByteArray) (p : Prf) (a1 a2 : Option Addr) (c1 c2 : Nat) (w : World) (hty : TypeIs w) (hl : LIn w a l) (hc : l.length ≤ cap) (hc9 : cap ≤ maxLen) (hp : PIn w p a1 a2 c2) (ho : LIn w a9 o) (hd : o.length ≤ cap9) (hd9 : cap9 ≤ maxLen) :
    Calls Tryd.prog 3 #[.slice a l.length cap, .slice a9 o.length cap9, prfV p a1 c1 a2 c2, .string key] w fun e w' => e = .returned (.bool true) ∧ Below w.heap.size w w' := by
  obtain ⟨W, hW⟩ : ∃ W : World, W = w.alloc (.cells #[.int .i64 p.many, .int .i64 p.first, .slice a1 p.L.length c1, .slice a2 p.B.length c2] 25) := ⟨_, rfl⟩
  obtain ⟨q, hq⟩ : ∃ q, q = w.heap.size := ⟨_, rfl⟩
  have hbw : Below w.heap.size w W := by rw [hW]; exact (Below.refl _ _).alloc (Nat.le_refl _) _
  have hbx : W.heap[q]? = some (boxC p a1 c1 a2 c2) := by rw [hW, hq]; exact heap_alloc_new w _
  have HW : Hid (w.alloc (.cells #[.int .i64 p.many, .int .i64 p.first, .slice a1 p.L.length c1, .slice a2 p.B.length c2] 25) = W ∧ w.heap.size = q) := ⟨hW.symm, hq.symm⟩
  have HIN := Lib.hid (And.intro hl (And.intro hp (And.intro hbw hbx)))
  have HV : Hid (prfV p a1 c1 a2 c2 = .agg #[.int .i64 p.many, .int .i64 p.first, .slice a1 p.L.length c1, .slice a2 p.B.length c2]) := rfl
  have HCAP := Lib.hid hc
  obtain ⟨n, hn⟩ : ∃ n, n = l.length := ⟨_, rfl⟩
  have HN := Lib.hid hn
  have HIO := Lib.hid ho
  have HTY := Lib.hid hty
  have HCP := Lib.hid (And.intro hd hd9)
  have HPC := Lib.hid hp.cap
  obtain ⟨n9, hn9⟩ : ∃ n9, n9 = o.length := ⟨_, rfl⟩
  have HN9 := Lib.hid hn9
  rw [← hn9]
  rw [← hn9] at hd
  unfold prfV
  rw [← hn]
  rw [← hn] at hc
  unfold maxLen at hc9 hd9
  have i0 : (n : Int) ≤ (cap : Int) := by omega
  have i9 : (cap : Int) ≤ 9223372036854775807 := by omega
  have i8 : (n9 : Int) ≤ (cap9 : Int) := by omega
  have i7 : (cap9 : Int) ≤ 9223372036854775807 := by omega
  clear hW hq hbw hbx hl hp hn hn9 ho hty
  go_enter Tryd.func3, Tryd.ntmps3
  go_upto_region 1 with fail
  rw [HW.out.1, HW.out.2]
  go_wp2_with fail
  refine (head_any W).mono ?_
  rintro e w1 ⟨rfl, hb1⟩
  have HB1 := Lib.hid hb1
  clear hb1
  go_wp2_with fail
  refine (Book.new_any w1).mono ?_
  rintro e w2 ⟨b, m, v, rfl, hs2, hb2⟩
  have hB : w.heap.size ≤ w1.heap.size := Nat.le_trans HIN.out.2.2.1.size HB1.out.size
  have hb02 : Below w.heap.size w w2 := (HIN.out.2.2.1.trans (HB1.out.mono HIN.out.2.2.1.size)).trans (hb2.mono hB)
  have H2 : Hid (LawAt w w2 w1.heap.size b m v [] a l ∧ w2.heap[q]? = some (boxC p a1 c1 a2 c2)) := ⟨⟨⟨hs2, List.nodup_nil⟩, HIN.out.1.ents hB hb02, hB, hb02⟩, box_kept hb2 (box_kept HB1.out HIN.out.2.2.2)⟩
  clear hs2 hb2 hb02 hB
  go_wp2_with fail
  have hg := great_any a l cap w2 H2.out.1.ents.lies HIN.out.1.most
  rw [← HN.out] at hg
  refine hg.mono ?_
  rintro e w3 ⟨g, rfl, hg, hb3⟩
  have H3 : Hid (LawAt w w3 w1.heap.size b m v [] a l ∧ w3.heap[q]? = some (boxC p a1 c1 a2 c2)) := ⟨H2.out.1.low hb3, box_kept hb3 H2.out.2⟩
  have HG3 := Lib.hid hg
  clear hg hb3
  cases g with
  | true =>
    go_wp2_with fail
    go_ret
    exact ⟨rfl, H3.out.1.below⟩
  | false =>
    go_wp2_with fail
    have hg := great_any a9 o cap9 w3 (HIO.out.lies.below H3.out.1.below) HIO.out.most
    rw [← HN9.out] at hg
    refine hg.mono ?_
    rintro e w4 ⟨g, rfl, hg, hb4⟩
    have H4 : Hid (LawAt w w4 w1.heap.size b m v [] a l ∧ w4.heap[q]? = some (boxC p a1 c1 a2 c2)) := ⟨H3.out.1.low hb4, box_kept hb4 H3.out.2⟩
    have HG4 := Lib.hid hg
    clear hg hb4
    cases g with
    | true =>
      go_wp2_with fail
      go_ret
      exact ⟨rfl, H4.out.1.below⟩
    | false =>
      obtain ⟨z0, z1, z2, z3⟩ := boxC_cell H4.out.2
      go_wp2_with fail
      have hg := greatP_any p a1 c1 a2 c2 w4 (HIN.out.2.1.ents.lies.below H4.out.1.below) HIN.out.2.1.ents.most (Nat.le_trans HIN.out.2.1.cap HIN.out.2.1.most)
      rw [HV.out] at hg
      refine hg.mono ?_
      rintro e w5 ⟨g, rfl, hg, hb5⟩
      have H5 : Hid (LawAt w w5 w1.heap.size b m v [] a l ∧ w5.heap[q]? = some (boxC p a1 c1 a2 c2)) := ⟨H4.out.1.low hb5, box_kept hb5 H4.out.2⟩
      have HG5 := Lib.hid hg
      clear hg hb5 z0 z1 z2 z3
      cases g with
      | true =>
        go_wp2_with fail
        go_ret
        exact ⟨rfl, H5.out.1.below⟩
      | false =>
        have HW : Hid (Wide l ∧ l.length ≤ 6000) := ⟨HIN.out.1.wide (HG3.out (by trivial)).2, (HG3.out (by trivial)).1⟩
        have HW9 : Hid (Wide o ∧ o.length ≤ 6000) := ⟨HIO.out.wide (HG4.out (by trivial)).2, (HG4.out (by trivial)).1⟩
        have S5 : Hid (AgSt w w5 w1.heap.size b m q p a1 a2 c1 c2 v [] a a9 l o 0) := ⟨H5.out.1, H5.out.2, HIO.out.ents H5.out.1.ge H5.out.1.below, HIN.out.2.1.prf H5.out.1.ge H5.out.1.below (HG5.out (by trivial)), by simp⟩
        clear HG3 HG4 HG5 H2 H3 H4 H5
        go_wp2_with fail
        have HR := root_some w1.heap.size b m v [] a cap l w5 S5.out.law.bk S5.out.law.ents HW.out.1 HW.out.2 (by simp)
        rw [← HN.out] at HR
        refine HR.mono ?_
        rintro e w6 ⟨z, ev, v6, T6, rfl, hs6, h6, hx6, hl6, hf6⟩
        have S6 : Hid (AgSt w w6 w1.heap.size b m q p a1 a2 c1 c2 v6 T6 a a9 l o 2100) := S5.out.next h6 hf6 (by simp at hl6; omega)
        have HS6 := Lib.hid hs6
        clear h6 hx6 hl6 hf6 HR hs6
        obtain ⟨z0, z1, z2, z3⟩ := boxC_cell S6.out.box
        have HH := has_some w1.heap.size b m v6 T6 z key p a1 a2 c1 c2 w6 S6.out.law.bk S6.out.prf HPC.out (by have := S6.out.len; omega)
        rw [HV.out] at HH
        have HHH := Lib.hid HH
        clear HH
        go_wp2_with fail
        refine HHH.out.mono ?_
        rintro e w7 ⟨V, v7, T7, rfl, hs7, h7, hx7, hl7, hf7⟩
        have S7 : Hid (AgSt w w7 w1.heap.size b m q p a1 a2 c1 c2 v7 T7 a a9 l o 4200) := S6.out.next h7 hf7 (by have := S6.out.len; omega)
        have HS7 := Lib.hid hs7
        have HX7 := Lib.hid hx7
        clear h7 hx7 hl7 hf7 hs7 z0 z1 z2 z3 HHH
        obtain ⟨xk, xv, xn, is, fv, rfl, hfv⟩ := has_form HS7.out
        obtain ⟨cd, hcd⟩ := code_wrong HTY.out hfv
        have HCD := Lib.hid hcd
        clear hfv hcd
        obtain ⟨xb, hxb⟩ : ∃ xb, xb = w7.heap.size := ⟨_, rfl⟩
        obtain ⟨W7, hW7⟩ : ∃ W7 : World, W7 = w7.alloc (.cells #[.string xk, .string xv, .int .i64 xn] 36) := ⟨_, rfl⟩
        have hbx7 : W7.heap[xb]? = some (entC xk xv xn) := by rw [hW7, hxb]; exact heap_alloc_new w7 _
        have S8 : Hid (AgSt w W7 w1.heap.size b m q p a1 a2 c1 c2 v7 T7 a a9 l o 4200 ∧ W7.heap[xb]? = some (entC xk xv xn)) := ⟨S7.out.low (by rw [hW7]; exact bl_alloc _ _), hbx7⟩
        have HW7 : Hid (w7.alloc (.cells #[.string xk, .string xv, .int .i64 xn] 36) = W7 ∧ w7.heap.size = xb) := ⟨hW7.symm, hxb.symm⟩
        clear hW7 hxb hbx7
        go_upto_region 7 with fail
        rw [HW7.out.1, HW7.out.2]
        go_wp2_with fail
        have HR := root_some w1.heap.size b m v7 T7 a9 cap9 o W7 S8.out.1.law.bk S8.out.1.ents HW9.out.1 HW9.out.2 (by have := S8.out.1.len; omega)
        rw [← HN9.out] at HR
        refine HR.mono ?_
        rintro e w8 ⟨z8, ev8, v8, T8, rfl, _, h8, hx8, hl8, hf8⟩
        have S9 : Hid (AgSt w w8 w1.heap.size b m q p a1 a2 c1 c2 v8 T8 a a9 l o 6300 ∧ w8.heap[xb]? = some (entC xk xv xn) ∧ Ext T7 T8) := ⟨S8.out.1.next h8 hf8 (by have := S8.out.1.len; omega), hf8.kept _ _ S8.out.2 rfl, hx8⟩
        clear h8 hx8 hl8 hf8 HR
        go_wp2_with fail
        have HR := prove_some w1.heap.size b m v8 T8 a9 cap9 o n9 w8 S9.out.1.law.bk S9.out.1.ents HW9.out.1 HW9.out.2 (by have := S9.out.1.len; omega) HCP.out.1 HCP.out.2 (by have := HN9.out; omega)
        rw [← HN9.out] at HR
        refine HR.mono ?_
        rintro e w9 ⟨i1, i2, s1, k1, e1, s2, k2, e2, ev9, v9, T9, rfl, _, h9, hx9, hl9, hf9⟩
        have S10 : Hid (AgSt w w9 w1.heap.size b m q p a1 a2 c1 c2 v9 T9 a a9 l o 9400 ∧ w9.heap[xb]? = some (entC xk xv xn) ∧ Ext T7 T9) := ⟨S9.out.1.next h9 hf9 (by have := S9.out.1.len; omega), hf9.kept _ _ S9.out.2.1 rfl, S9.out.2.2.trans hx9⟩
        clear h9 hx9 hl9 hf9 HR
        go_wp2_with fail
        have HR := root_some w1.heap.size b m v9 T9 a cap l w9 S10.out.1.law.bk S10.out.1.law.ents HW.out.1 HW.out.2 (by have := S10.out.1.len; omega)
        rw [← HN.out] at HR
        refine HR.mono ?_
        rintro e w10 ⟨z', ev', v10, T10, rfl, hs10, h10, hx10, hl10, hf10⟩
        have S11 : Hid (AgSt w w10 w1.heap.size b m q p a1 a2 c1 c2 v10 T10 a a9 l o 11500 ∧ w10.heap[xb]? = some (entC xk xv xn) ∧ Ext T7 T10) := ⟨S10.out.1.next h10 hf10 (by have := S10.out.1.len; omega), hf10.kept _ _ S10.out.2.1 rfl, S10.out.2.2.trans hx10⟩
        obtain ⟨rfl, rfl⟩ := HS6.out.one h10.nd (HX7.out.trans S11.out.2.2) hs10
        clear h10 hx10 hl10 hf10 HR hs10
        obtain ⟨z0, z1, z2, z3⟩ := boxC_cell S11.out.1.box
        have HH := has_some w1.heap.size b m v10 T10 z key p a1 a2 c1 c2 w10 S11.out.1.law.bk S11.out.1.prf HPC.out (by have := S11.out.1.len; omega)
        rw [HV.out] at HH
        have HHH := Lib.hid HH
        clear HH
        go_wp2_with fail
        refine HHH.out.mono ?_
        rintro e w11 ⟨V, v11, T11, rfl, hs11, h11, hx11, hl11, hf11⟩
        have S12 : Hid (AgSt w w11 w1.heap.size b m q p a1 a2 c1 c2 v11 T11 a a9 l o 13600 ∧ w11.heap[xb]? = some (entC xk xv xn)) := ⟨S11.out.1.next h11 hf11 (by have := S11.out.1.len; omega), hf11.kept _ _ S11.out.2.1 rfl⟩
        obtain rfl := HS7.out.one h11.nd (S11.out.2.2.trans hx11) hs11
        clear h11 hx11 hl11 hf11 hs11 z0 z1 z2 z3 HHH
        obtain ⟨yb, hyb⟩ : ∃ yb, yb = w11.heap.size := ⟨_, rfl⟩
        obtain ⟨W9, hW9⟩ : ∃ W9 : World, W9 = w11.alloc (.cells #[.string xk, .string xv, .int .i64 xn] 36) := ⟨_, rfl⟩
        have hbx9 : W9.heap[yb]? = some (entC xk xv xn) := by rw [hW9, hyb]; exact heap_alloc_new w11 _
        have hb9 : Below w11.heap.size w11 W9 := by rw [hW9]; exact bl_alloc _ _
        have S13 : Hid (Below w.heap.size w W9 ∧ W9.heap[xb]? = some (entC xk xv xn) ∧ W9.heap[yb]? = some (entC xk xv xn)) := ⟨(S12.out.1.low hb9).law.below, box_kept hb9 S12.out.2, hbx9⟩
        have HW9b : Hid (w11.alloc (.cells #[.string xk, .string xv, .int .i64 xn] 36) = W9 ∧ w11.heap.size = yb) := ⟨hW9.symm, hyb.symm⟩
        have HEV : Hid (ev = .nilIface ∨ ∃ n, ev = wrongV n) := by
          rcases HS6.out with ⟨_, _, h⟩ | ⟨_, h, _⟩
          · exact .inr ⟨1, h⟩
          · exact .inl h
        clear hW9 hyb hbx9 hb9
        go_upto_region 11 with fail
        rw [HW9b.out.1, HW9b.out.2]
        have hd : Below W9.heap.size W9 W9.drew := ⟨rfl, rfl, rfl, Nat.le_refl _, fun _ _ => rfl⟩
        have HDD := Lib.hid hd
        clear hd
        have HMC : Hid (∀ X : World, Below W9.heap.size W9 X → X.cell? ⟨xb, 0, none⟩ = some (.string xk) ∧ X.cell? ⟨xb, 1, none⟩ = some (.string xv) ∧ X.cell? ⟨xb, 2, none⟩ = some (.int .i64 xn) ∧ X.cell? ⟨yb, 0, none⟩ = some (.string xk) ∧ X.cell? ⟨yb, 1, none⟩ = some (.string xv) ∧ X.cell? ⟨yb, 2, none⟩ = some (.int .i64 xn)) := fun X hX => by
          obtain ⟨c0, c1, c2⟩ := entC_cell (box_kept hX S13.out.2.1)
          obtain ⟨d0, d1, d2⟩ := entC_cell (box_kept hX S13.out.2.2)
          exact ⟨c0, c1, c2, d0, d1, d2⟩
        have HCE : Hid (∀ X : World, Below W9.heap.size W9 X → Calls Tryd.prog 12 #[fv] X fun e X' => e = .returned (.int .i64 cd) ∧ Below X.heap.size X X') := fun X hX => HCD.out X (bl3 S13.out.1 hX)
        have hs0 := HMC.out _ HDD.out
        rcases HEV.out with rfl | ⟨ne, rfl⟩
        · go_cut [8] from 80 to 109 (fun v wx => v = .bool true ∧ Below W9.heap.size W9 wx)
          case first =>
            go_region_held3 (fun X => X.cell? ⟨xb, 0, none⟩ = some (.string xk) ∧ X.cell? ⟨xb, 1, none⟩ = some (.string xv) ∧ X.cell? ⟨xb, 2, none⟩ = some (.int .i64 xn) ∧ X.cell? ⟨yb, 0, none⟩ = some (.string xk) ∧ X.cell? ⟨yb, 1, none⟩ = some (.string xv) ∧ X.cell? ⟨yb, 2, none⟩ = some (.int .i64 xn)) (first | assumption | go_keep)
              (first
              | (go_at_call 12; refine (HCE.out _ HBA.out).mono ?_; rintro e wb ⟨rfl, hbb⟩; have HBB := Lib.hid (bl3 HBA.out hbb); have hs2 := HMC.out _ HBB.out; clear hbb)
              | (go_at_call 12; refine (HCE.out _ HDD.out).mono ?_; rintro e wa ⟨rfl, hba⟩; have HBA := Lib.hid (bl3 HDD.out hba); have hs1 := HMC.out _ HBA.out; clear hba))
            all_goals
              go_wp2_with fail
              go_meet
              exact ⟨rfl, HBB.out⟩
          case rest =>
            obtain ⟨rfl, hst⟩ := hcut
            have HST := Lib.hid hst
            clear hst hs0
            go_wp2_with fail
            go_ret
            exact ⟨rfl, bl3 S13.out.1 HST.out⟩
        · unfold wrongV
          go_cut [8] from 80 to 109 (fun v wx => v = .bool true ∧ Below W9.heap.size W9 wx)
          case first =>
            go_region_held3 (fun X => X.cell? ⟨xb, 0, none⟩ = some (.string xk) ∧ X.cell? ⟨xb, 1, none⟩ = some (.string xv) ∧ X.cell? ⟨xb, 2, none⟩ = some (.int .i64 xn) ∧ X.cell? ⟨yb, 0, none⟩ = some (.string xk) ∧ X.cell? ⟨yb, 1, none⟩ = some (.string xv) ∧ X.cell? ⟨yb, 2, none⟩ = some (.int .i64 xn)) (first | assumption | go_keep)
              (first
              | (go_at_call 12; refine (HCE.out _ HBA.out).mono ?_; rintro e wb ⟨rfl, hbb⟩; have HBB := Lib.hid (bl3 HBA.out hbb); have hs2 := HMC.out _ HBB.out; clear hbb)
              | (go_at_call 12; refine (HCE.out _ HDD.out).mono ?_; rintro e wa ⟨rfl, hba⟩; have HBA := Lib.hid (bl3 HDD.out hba); have hs1 := HMC.out _ HBA.out; clear hba))
            all_goals
              go_wp2_with fail
              go_meet
              exact ⟨rfl, HBB.out⟩
          case rest =>
            obtain ⟨rfl, hst⟩ := hcut
            have HST := Lib.hid hst
            clear hst hs0
            go_wp2_with fail
            go_ret
            exact ⟨rfl, bl3 S13.out.1 HST.out⟩
end Go.Proofs.YtlepjjcnlcnnfaaDoor.Merkle
