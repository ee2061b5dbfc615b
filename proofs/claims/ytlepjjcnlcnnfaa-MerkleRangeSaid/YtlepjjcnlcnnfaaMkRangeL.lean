/- Merkle: MerkleRange. -/
import Derived.Test.YtlepjjcnlcnnfaaMkRange2
namespace Go.Proofs.Ytlepjjcnlcnnfaa.Merkle
open Go.RowKit Go.My

theorem row_ents {w : World} {base bB k vc : Nat} {va : Option Addr} {sub : List Ent} (hrow : w.ownsRow base 42 3 (.slice va k vc) k (sub.flatMap entL)) (hk : k = sub.length) : EntsAt w bB va sub := by
  refine ⟨row_liesAt hrow entL_len hk, fun g o e hne => ?_⟩
  have hg : (Value.slice va k vc).ownBlock = some g := by
    rw [e]
    rcases hrow with ⟨hl, h | ⟨x, cp, cur, h1, _⟩⟩
    · have := h.2
      exact absurd (List.length_eq_zero_iff.1 (by omega)) hne
    · rw [e] at h1
      cases h1
      rfl
  obtain ⟨_, cur, hcc⟩ := row_block hrow hg
  exact ⟨lt_of_heap hcc, .inr ⟨_, hcc, rfl⟩⟩
theorem mkP_V {l : List Ent} {f k : Nat} {ds : List Nat} (hfk : f + k ≤ l.length) (a1 a2 : Option Addr) (c1 c2 : Nat) : prfV (mkP l f k ds) a1 c1 a2 c2 = .agg #[.int .i64 (l.length : Int), .int .i64 (f : Int), .slice a1 k c1, .slice a2 ds.length c2] := by
  have hk : ((l.drop f).take k).length = k := by rw [List.length_take, List.length_drop]; omega
  unfold prfV mkP
  simp only [hk, List.length_map]
set_option maxRecDepth 100000 in
set_option maxHeartbeats 3200000 in
theorem rangelaw_any (a : Option Addr) (cap : Nat) (l : List Ent) (fr tk : ByteArray) (p : Prf) (a1 a2 : Option Addr) (c1 c2 : Nat) (w : World) (hl : LIn w a l) (hc : l.length ≤ cap) (hc9 : cap ≤ maxLen) (hp : PIn w p a1 a2 c2) :
    Calls Try.prog 7 #[.slice a l.length cap, .string fr, .string tk, prfV p a1 c1 a2 c2] w fun e w' => e = .returned (.bool true) ∧ Below w.heap.size w w' := by
  obtain ⟨W, hW⟩ : ∃ W : World, W = w.alloc (.cells #[.int .i64 p.many, .int .i64 p.first, .slice a1 p.L.length c1, .slice a2 p.B.length c2] 25) := ⟨_, rfl⟩
  obtain ⟨q, hq⟩ : ∃ q, q = w.heap.size := ⟨_, rfl⟩
  have hbw : Below w.heap.size w W := by rw [hW]; exact (Below.refl _ _).alloc (Nat.le_refl _) _
  have hbx : W.heap[q]? = some (boxC p a1 c1 a2 c2) := by rw [hW, hq]; exact heap_alloc_new w _
  have HW : Hid (w.alloc (.cells #[.int .i64 p.many, .int .i64 p.first, .slice a1 p.L.length c1, .slice a2 p.B.length c2] 25) = W ∧ w.heap.size = q) := ⟨hW.symm, hq.symm⟩
  have HIN := Lib.hid (And.intro hl (And.intro hp (And.intro hbw hbx)))
  have HV : Hid (prfV p a1 c1 a2 c2 = .agg #[.int .i64 p.many, .int .i64 p.first, .slice a1 p.L.length c1, .slice a2 p.B.length c2]) := rfl
  have HCAP := Lib.hid hc
  have HCP9 := Lib.hid hc9
  obtain ⟨n, hn⟩ : ∃ n, n = l.length := ⟨_, rfl⟩
  have HN := Lib.hid hn
  unfold prfV
  rw [← hn]
  rw [← hn] at hc
  unfold maxLen at hc9
  have i0 : (n : Int) ≤ (cap : Int) := by omega
  have i9 : (cap : Int) ≤ 9223372036854775807 := by omega
  clear hW hq hbw hbx hl hp hn
  go_enter Try.func7, Try.ntmps7
  go_upto_region 1 with fail
  rw [HW.out.1, HW.out.2]
  go_wp2_with fail
  refine (head_any W).mono ?_
  rintro e w1 ⟨rfl, hb1⟩
  have HB1 := Lib.hid hb1
  clear hb1
  go_wp2_with fail
  refine (Book.new_any w1).mono ?_
  rintro e w2 ⟨b, m, v, rfl, hs2, hb2⟩
  have hB : w.heap.size ≤ w1.heap.size := Nat.le_trans HIN.out.2.2.1.size HB1.out.size
  have hb02 : Below w.heap.size w w2 := (HIN.out.2.2.1.trans (HB1.out.mono HIN.out.2.2.1.size)).trans (hb2.mono hB)
  have H2 : Hid (LawAt w w2 w1.heap.size b m v [] a l ∧ w2.heap[q]? = some (boxC p a1 c1 a2 c2)) := ⟨⟨⟨hs2, List.nodup_nil⟩, HIN.out.1.ents hB hb02, hB, hb02⟩, box_kept hb2 (box_kept HB1.out HIN.out.2.2.2)⟩
  clear hs2 hb2 hb02 hB
  go_wp2_with fail
  have hg := great_any a l cap w2 H2.out.1.ents.lies HIN.out.1.most
  rw [← HN.out] at hg
  refine hg.mono ?_
  rintro e w3 ⟨g, rfl, hg, hb3⟩
  have H3 : Hid (LawAt w w3 w1.heap.size b m v [] a l ∧ w3.heap[q]? = some (boxC p a1 c1 a2 c2)) := ⟨H2.out.1.low hb3, box_kept hb3 H2.out.2⟩
  have HG3 := Lib.hid hg
  clear hg hb3
  cases g with
  | true =>
    go_wp2_with fail
    go_ret
    exact ⟨rfl, H3.out.1.below⟩
  | false =>
    obtain ⟨z0, z1, z2, z3⟩ := boxC_cell H3.out.2
    go_wp2_with fail
    have hg := greatP_any p a1 c1 a2 c2 w3 (HIN.out.2.1.ents.lies.below H3.out.1.below) HIN.out.2.1.ents.most (Nat.le_trans HIN.out.2.1.cap HIN.out.2.1.most)
    rw [HV.out] at hg
    refine hg.mono ?_
    rintro e w4 ⟨g, rfl, hg, hb4⟩
    have H4 : Hid (LawAt w w4 w1.heap.size b m v [] a l ∧ w4.heap[q]? = some (boxC p a1 c1 a2 c2)) := ⟨H3.out.1.low hb4, box_kept hb4 H3.out.2⟩
    have HG4 := Lib.hid hg
    clear hg hb4 z0 z1 z2 z3
    cases g with
    | true =>
      go_wp2_with fail
      go_ret
      exact ⟨rfl, H4.out.1.below⟩
    | false =>
      go_wp2_with fail
      cases hr : rightB l with
      | false =>
        have HR := root_no b a cap l w4 H4.out.1.ents.lies (by have := (HG3.out (by trivial)).1; omega) (HIN.out.1.wide (HG3.out (by trivial)).2) hr
        rw [← HN.out] at HR
        refine HR.mono ?_
        rintro e w5 ⟨rfl, hb5⟩
        have H5 : Hid (LawAt w w5 w1.heap.size b m v [] a l ∧ w5.heap[q]? = some (boxC p a1 c1 a2 c2)) := ⟨H4.out.1.low hb5, box_kept hb5 H4.out.2⟩
        clear hb5 hr HR
        unfold wrongV
        go_wp2_with fail
        go_ret
        exact ⟨rfl, H5.out.1.below⟩
      | true =>
        have HR := root_yes w1.heap.size b m v [] a cap l w4 H4.out.1.bk H4.out.1.ents (HIN.out.1.wide (HG3.out (by trivial)).2) hr (by simp)
        rw [← HN.out] at HR
        refine HR.mono ?_
        rintro e w5 ⟨v5, T5, d, t, rfl, h5, -, ht, hr5, hl5, hf5⟩
        have hlen := right_len hr
        have hT5 : T5.length ≤ 3000 := by simp at hl5; omega
        have H5 : Hid (LawAt w w5 w1.heap.size b m v5 T5 a l ∧ w5.heap[q]? = some (boxC p a1 c1 a2 c2) ∧ TopAt enc T5 l t ∧ At T5 d (rootT l.length t)) := ⟨H4.out.1.next h5 hf5, hf5.kept _ _ H4.out.2 rfl, ht, hr5⟩
        clear h5 ht hr5 hl5 hf5 HR hlen
        have HRI := Lib.hid hr
        clear hr
        obtain ⟨z0, z1, z2, z3⟩ := boxC_cell H5.out.2.1
        have P0 : Hid (RgRel l fr tk true true w5 0 true true (.slice none 0 0) w5) := ⟨by simp, by simp, World.ownsRow_nil _ _ _ _, Below.refl _ _⟩
        obtain ⟨i0, hi0, hz0, hz1, hz2⟩ := info_parts ent_info
        have HI := Lib.hid hi0
        have HZ := Lib.hid hz0
        have HS := Lib.hid hz1
        have HY := Lib.hid hz2
        obtain ⟨te, hte⟩ : ∃ te, decide (tk.size = 0) = te := ⟨_, rfl⟩
        have HTE := Lib.hid hte
        have ht1 : (tk.toList == []) = te := by
          rw [← hte]
          by_cases h : tk.size = 0
          · rw [size_empty h, Lib.toList_data]; rfl
          · rw [empty_ne h]; simp [h]
        have hn2 : (n : Int) ≤ 2000 := by
          have := right_len HRI.out
          have := HN.out
          omega
        clear hi0 hz0 hz1 hz2 hte
        go_wp2_with fail
        go_loopw [13, 14] (fun u i wr => ∃ j : Nat, j ≤ n ∧ i = .int .i64 j ∧ Hid (RgRel l fr tk true true w5 j true true u wr)) (fun _ i _ => n - (intOf i).toNat)
        case atStart => exact ⟨0, by omega, rfl, P0⟩
        case round =>
          clear P0 z0 z1 z2 z3
          obtain ⟨j, hj, rfl, HJ⟩ := hrel
          by_cases hlt : j < n
          · obtain ⟨⟨xk, xu, xn⟩, hx⟩ : ∃ x, l[j]? = some x := ⟨_, List.getElem?_eq_getElem (by rw [← HN.out]; exact hlt)⟩
            obtain ⟨g, o, rfl, lg, hcl⟩ := (H5.out.1.ents.lies.below HJ.out.below) j _ hx
            have k0 := hcl 0 _ rfl
            have k1 := hcl 1 _ rfl
            have k2 := hcl 2 _ rfl
            simp only [Nat.add_zero] at k0 k1 k2
            have HXJ := Lib.hid hx
            have hj0 : (0 : Int) ≤ (j : Int) := by omega
            have hj1 : (j : Int) < (n : Int) := by omega
            have HJL : Hid (((l.take j).filter fun x => inB fr tk x.key).length ≤ 2000) := by
              have := List.length_filter_le (fun x => inB fr tk x.key) (l.take j)
              rw [List.length_take] at this
              show _ ≤ _
              omega
            obtain ⟨lf, hlf⟩ : ∃ b, Op.bytesLess xk.toList fr.toList = b := ⟨_, rfl⟩
            obtain ⟨lt, hlt2⟩ : ∃ b, Op.bytesLess xk.toList tk.toList = b := ⟨_, rfl⟩
            have HLF : Hid (lessK xk fr = lf) := hlf
            have HLT : Hid (lessK xk tk = lt) := hlt2
            have HGE : Hid (geB tk xk = (!te && !lt)) := by show _ = _; unfold geB; rw [HTE.out, HLT.out]
            have HIN3 : Hid (inB fr tk xk = (!lf && !(!te && !lt))) := by show _ = _; unfold inB; rw [HLF.out, HGE.out]
            have HND : Hid (∀ (W : World) nq, Below W.heap.size W (W.drewN nq)) := fun W nq => ⟨rfl, rfl, rfl, by simp, fun _ _ => rfl⟩
            clear hx hcl lg
            cases lf with
            | true =>
              have HNX : Hid (RgRel l fr tk true true w5 (j + 1) true true u13 wr) := HJ.out.skip HXJ.out (Below.refl _ _) (by rw [HIN3.out]; rfl) (by simp) (by simp)
              go_wp2_with fail
              exact ⟨⟨j + 1, by omega, by simp, HNX⟩, by simp [intOf]; omega⟩
            | false =>
              cases te with
              | true =>
                go_wp2_with (at_builtin; refine wpList_append_own_at _ rfl _ _ 22 rfl w5.heap.size 42 i0 (.agg #[.string ⟨#[]⟩, .string ⟨#[]⟩, .int .i64 0]) 3 40 Try.underlying22 HI.out HZ.out HS.out HY.out rfl (by decide) _ _ _ rfl ((row_below HJ.out.row (Below.refl _ _)).alloc _) ⟨wr.heap.size, 0, none⟩ 1 1 [.string xk, .string xu, .int .i64 xn] rfl rfl (news_at wr [.string xk, .string xu, .int .i64 xn] 42) (ent_one ⟨xk, xu, xn⟩) (by have := HJL.out; unfold maxLen; omega) (by have := HJL.out; omega) (by have := HJ.out.below.size; simp; omega) ?_)
                intro v1 w3 hown1 hgrow1 _ _
                obtain ⟨va, vc, rfl⟩ := row_slice hown1
                have HNX : Hid (RgRel l fr tk true true w5 (j + 1) true true (.slice va (((l.take j).filter fun x => inB fr tk x.key).length + 1) vc) w3) := HJ.out.app HXJ.out (Below.refl _ _) hown1 hgrow1 (by rw [HIN3.out]; rfl) (by simp) (by simp)
                clear hown1 hgrow1
                go_wp2_with fail
                exact ⟨⟨j + 1, by omega, by simp, HNX⟩, by simp [intOf]; omega⟩
              | false =>
                cases lt with
                | true =>
                  go_wp2_with (at_builtin; refine wpList_append_own_at _ rfl _ _ 22 rfl w5.heap.size 42 i0 (.agg #[.string ⟨#[]⟩, .string ⟨#[]⟩, .int .i64 0]) 3 40 Try.underlying22 HI.out HZ.out HS.out HY.out rfl (by decide) _ _ _ rfl ((row_below HJ.out.row (Below.refl _ _)).alloc _) ⟨wr.heap.size, 0, none⟩ 1 1 [.string xk, .string xu, .int .i64 xn] rfl rfl (news_at wr [.string xk, .string xu, .int .i64 xn] 42) (ent_one ⟨xk, xu, xn⟩) (by have := HJL.out; unfold maxLen; omega) (by have := HJL.out; omega) (by have := HJ.out.below.size; simp; omega) ?_)
                  intro v1 w3 hown1 hgrow1 _ _
                  obtain ⟨va, vc, rfl⟩ := row_slice hown1
                  have HNX : Hid (RgRel l fr tk true true w5 (j + 1) true true (.slice va (((l.take j).filter fun x => inB fr tk x.key).length + 1) vc) w3) := HJ.out.app HXJ.out (Below.refl _ _) hown1 hgrow1 (by rw [HIN3.out]; rfl) (by simp) (by simp)
                  clear hown1 hgrow1
                  go_wp2_with fail
                  exact ⟨⟨j + 1, by omega, by simp, HNX⟩, by simp [intOf]; omega⟩
                | false =>
                  have HNX : Hid (RgRel l fr tk true true w5 (j + 1) true true u13 wr) := HJ.out.skip HXJ.out (Below.refl _ _) (by rw [HIN3.out]; rfl) (by simp) (by simp)
                  go_wp2_with fail
                  exact ⟨⟨j + 1, by omega, by simp, HNX⟩, by simp [intOf]; omega⟩
          · obtain rfl : n = j := by omega
            have HOUT : Hid ((l.take n) = l) := List.take_of_length_le (by have := HN.out; omega)
            have hrow := HJ.out.row
            rw [HOUT.out] at hrow
            obtain ⟨va, vc, rfl⟩ := row_slice hrow
            have H6 : Hid (LawAt w wr w1.heap.size b m v5 T5 a l ∧ wr.heap[q]? = some (boxC p a1 c1 a2 c2) ∧ EntsAt wr w1.heap.size va (l.filter fun x => inB fr tk x.key)) := ⟨H5.out.1.low HJ.out.below, box_kept HJ.out.below H5.out.2.1, row_ents hrow rfl⟩
            obtain ⟨kn, hkn⟩ : ∃ kn, kn = (l.filter fun x => inB fr tk x.key).length := ⟨_, rfl⟩
            have HKN := Lib.hid hkn
            have hk9 : kn ≤ 2000 := by
              rw [hkn]
              exact Nat.le_trans (List.length_filter_le _ _) (by have := HN.out; omega)
            obtain ⟨z0, z1, z2, z3⟩ := boxC_cell H6.out.2.1
            rw [← hkn]
            clear hrow HJ hkn
            have hp6 : PrfAt wr w1.heap.size p a1 a2 := HIN.out.2.1.prf H6.out.1.ge H6.out.1.below (HG4.out (by trivial))
            have HH := range_told w1.heap.size b m v5 T5 l t d fr tk p a1 a2 c1 c2 wr H6.out.1.bk hp6 HIN.out.2.1.cap (by omega) HRI.out (HIN.out.1.wide (HG3.out (by trivial)).2) H5.out.2.2.1 H5.out.2.2.2
            rw [HV.out] at HH
            have HHH := Lib.hid HH
            clear HH hp6
            go_wp2_with fail
            refine HHH.out.mono ?_
            rintro e w6 ⟨hr6, v6, T6, h6, hx6, hl6, hf6⟩
            have H7 : Hid (LawAt w w6 w1.heap.size b m v6 T6 a l ∧ EntsAt w6 w1.heap.size va (l.filter fun x => inB fr tk x.key) ∧ TopAt enc T6 l t ∧ At T6 d (rootT l.length t) ∧ T6.length ≤ 6000) := ⟨H6.out.1.next h6 hf6, H6.out.2.2.keep hf6, H5.out.2.2.1.ext hx6, hx6 _ _ H5.out.2.2.2, by omega⟩
            clear h6 hx6 hl6 hf6 z0 z1 z2 z3 HHH
            unfold RangeSays at hr6
            rcases hr6 with ⟨ne, rfl⟩ | ⟨ra, rc, rfl, hrl⟩
            · unfold wrongV
              go_wp2_with fail
              have HR := prove_yes w1.heap.size b m v6 T6 a cap l 0 n w6 H7.out.1.bk H7.out.1.ents (HIN.out.1.wide (HG3.out (by trivial)).2) HRI.out HCAP.out HCP9.out (by have := HN.out; omega) (by have := H7.out.2.2.2.2; omega)
              rw [← HN.out] at HR
              rw [show ((0 : Nat) : Int) = 0 from rfl] at HR
              refine HR.mono ?_
              rintro e w8 ⟨v8, T8, p1, g1, p2, g2, ds, rfl, h8, hx8, hbd, he8, hl8, hs8, hdc, hT8, hf8⟩
              rw [← HN.out, show ((0 : Nat) : Int) = 0 from rfl]
              have hds : ds.length ≤ 1 := by
                rw [hbd.len]
                rcases Nat.eq_zero_or_pos n with h0 | h0
                · rw [parts_apart (apart_iff.2 (by omega))]
                  omega
                · rw [parts_all l.length 0 0 (0 + n) (by have := HN.out; omega) (by omega) (by have := HN.out; omega)]
                  omega
              have hn10 := right_len HRI.out
              have hlt8 : T8.length ≤ 20000 := by have := H7.out.2.2.2.2; omega
              have H8 : Hid (LawAt w w8 w1.heap.size b m v8 T8 a l ∧ EntsAt w8 w1.heap.size va (l.filter fun x => inB fr tk x.key) ∧ TopAt enc T8 l t ∧ At T8 d (rootT l.length t) ∧ T8.length ≤ 20000 ∧ ds.length ≤ g2 ∧ BesideAt enc T8 0 (0 + n) 0 l ds ∧ PrfAt w8 w1.heap.size (mkP l 0 n ds) p1 p2) := ⟨H7.out.1.next h8 hf8, H7.out.2.1.keep hf8, H7.out.2.2.1.ext hx8, hx8 _ _ H7.out.2.2.2.1, hlt8, hdc, hbd, mkP_at he8 hl8 hs8 (HIN.out.1.wide (HG3.out (by trivial)).2) HRI.out (by omega) hbd (by omega)⟩
              have HDS : Hid (prfV (mkP l 0 n ds) p1 g1 p2 g2 = .agg #[.int .i64 (n : Int), .int .i64 0, .slice p1 n g1, .slice p2 ds.length g2]) := by
                show _ = _
                rw [mkP_V (by have := HN.out; omega), ← HN.out]
                rfl
              clear h8 hx8 hbd he8 hl8 hs8 hT8 hf8 HR hdc hds hn10 hlt8
              obtain ⟨dl, hdl⟩ : ∃ dl, dl = ds.length := ⟨_, rfl⟩
              rw [← hdl] at HDS ⊢
              clear hdl
              obtain ⟨q8, hq8⟩ : ∃ q8, q8 = w8.heap.size := ⟨_, rfl⟩
              obtain ⟨W8, hW8⟩ : ∃ W8 : World, W8 = w8.alloc (.cells #[.int .i64 (n : Int), .int .i64 0, .slice p1 n g1, .slice p2 dl g2] 25) := ⟨_, rfl⟩
              have hbx8 : W8.heap[q8]? = some (.cells #[.int .i64 (n : Int), .int .i64 0, .slice p1 n g1, .slice p2 dl g2] 25 (0, 0)) := by rw [hW8, hq8]; exact heap_alloc_new w8 _
              have y0 : W8.cell? ⟨q8, 0, none⟩ = some (.int .i64 (n : Int)) := by rw [cell_of_row _ _ _ _ _ _ hbx8]; rfl
              have y1 : W8.cell? ⟨q8, 1, none⟩ = some (.int .i64 0) := by rw [cell_of_row _ _ _ _ _ _ hbx8]; rfl
              have y2 : W8.cell? ⟨q8, 2, none⟩ = some (.slice p1 n g1) := by rw [cell_of_row _ _ _ _ _ _ hbx8]; rfl
              have y3 : W8.cell? ⟨q8, 3, none⟩ = some (.slice p2 dl g2) := by rw [cell_of_row _ _ _ _ _ _ hbx8]; rfl
              have hb8 : Below w8.heap.size w8 W8 := by rw [hW8]; exact bl_alloc w8 _
              have HW8 : Hid (w8.alloc (.cells #[.int .i64 (n : Int), .int .i64 0, .slice p1 n g1, .slice p2 dl g2] 25) = W8 ∧ w8.heap.size = q8) := ⟨hW8.symm, hq8.symm⟩
              have H9 : Hid (LawAt w W8 w1.heap.size b m v8 T8 a l ∧ EntsAt W8 w1.heap.size va (l.filter fun x => inB fr tk x.key) ∧ PrfAt W8 w1.heap.size (mkP l 0 n ds) p1 p2) := ⟨H8.out.1.low hb8, H8.out.2.1.keep (Fx.of_below hb8 H8.out.1.bk.le), H8.out.2.2.2.2.2.2.2.keep (Fx.of_below hb8 H8.out.1.bk.le)⟩
              clear hW8 hq8 hbx8 hb8
              go_upto_region 18 with fail
              rw [HW8.out.1, HW8.out.2]
              have HH := range_all w1.heap.size b m v8 T8 l t d ds fr tk p1 p2 g1 g2 W8 H9.out.1.bk (by rw [← HN.out]; exact H9.out.2.2) H8.out.2.2.2.2.2.1 (by have := H8.out.2.2.2.2.1; omega) HRI.out (by rw [← HN.out]; exact H8.out.2.2.2.2.2.2.1) H8.out.2.2.1 H8.out.2.2.2.1
              rw [← HN.out, HDS.out, ← HKN.out] at HH
              have HHH := Lib.hid HH
              clear HH
              go_wp2_with fail
              refine HHH.out.mono ?_
              rintro e w9 ⟨⟨sa, sc, rfl, hsl⟩, v9, T9, h9, hf9⟩
              have H10 : Hid (LawAt w w9 w1.heap.size b m v9 T9 a l) := H9.out.1.next h9 hf9
              have hsm := same_yes sa va sc vc kn (l.filter fun x => inB fr tk x.key) w9 HKN.out hsl (H9.out.2.1.keep hf9).lies (by omega)
              have HSM := Lib.hid hsm
              clear h9 hf9 hsl hsm y0 y1 y2 y3
              go_wp2_with fail
              refine HSM.out.mono ?_
              rintro e w10 ⟨rfl, hb10⟩
              have H11 : Hid (LawAt w w10 w1.heap.size b m v9 T9 a l) := H10.out.low hb10
              clear hb10
              go_wp2_with fail
              go_ret
              exact ⟨rfl, H11.out.below⟩
            · rw [← HKN.out]
              have hsm := same_yes ra va rc vc kn (l.filter fun x => inB fr tk x.key) w6 HKN.out hrl H7.out.2.1.lies (by omega)
              have HSM := Lib.hid hsm
              clear hrl hsm
              go_wp2_with fail
              refine HSM.out.mono ?_
              rintro e w7 ⟨rfl, hb7⟩
              have H17 : Hid (LawAt w w7 w1.heap.size b m v6 T6 a l ∧ EntsAt w7 w1.heap.size va (l.filter fun x => inB fr tk x.key) ∧ TopAt enc T6 l t ∧ At T6 d (rootT l.length t) ∧ T6.length ≤ 6000) := ⟨H7.out.1.low hb7, H7.out.2.1.keep (Fx.of_below hb7 H7.out.1.bk.le), H7.out.2.2⟩
              clear hb7
              go_wp2_with fail
              have HR := prove_yes w1.heap.size b m v6 T6 a cap l 0 n w7 H17.out.1.bk H17.out.1.ents (HIN.out.1.wide (HG3.out (by trivial)).2) HRI.out HCAP.out HCP9.out (by have := HN.out; omega) (by have := H17.out.2.2.2.2; omega)
              rw [← HN.out] at HR
              rw [show ((0 : Nat) : Int) = 0 from rfl] at HR
              refine HR.mono ?_
              rintro e w8 ⟨v8, T8, p1, g1, p2, g2, ds, rfl, h8, hx8, hbd, he8, hl8, hs8, hdc, hT8, hf8⟩
              rw [← HN.out, show ((0 : Nat) : Int) = 0 from rfl]
              have hds : ds.length ≤ 1 := by
                rw [hbd.len]
                rcases Nat.eq_zero_or_pos n with h0 | h0
                · rw [parts_apart (apart_iff.2 (by omega))]
                  omega
                · rw [parts_all l.length 0 0 (0 + n) (by have := HN.out; omega) (by omega) (by have := HN.out; omega)]
                  omega
              have hn10 := right_len HRI.out
              have hlt8 : T8.length ≤ 20000 := by have := H17.out.2.2.2.2; omega
              have H8 : Hid (LawAt w w8 w1.heap.size b m v8 T8 a l ∧ EntsAt w8 w1.heap.size va (l.filter fun x => inB fr tk x.key) ∧ TopAt enc T8 l t ∧ At T8 d (rootT l.length t) ∧ T8.length ≤ 20000 ∧ ds.length ≤ g2 ∧ BesideAt enc T8 0 (0 + n) 0 l ds ∧ PrfAt w8 w1.heap.size (mkP l 0 n ds) p1 p2) := ⟨H17.out.1.next h8 hf8, H17.out.2.1.keep hf8, H17.out.2.2.1.ext hx8, hx8 _ _ H17.out.2.2.2.1, hlt8, hdc, hbd, mkP_at he8 hl8 hs8 (HIN.out.1.wide (HG3.out (by trivial)).2) HRI.out (by omega) hbd (by omega)⟩
              have HDS : Hid (prfV (mkP l 0 n ds) p1 g1 p2 g2 = .agg #[.int .i64 (n : Int), .int .i64 0, .slice p1 n g1, .slice p2 ds.length g2]) := by
                show _ = _
                rw [mkP_V (by have := HN.out; omega), ← HN.out]
                rfl
              clear h8 hx8 hbd he8 hl8 hs8 hT8 hf8 HR hdc hds hn10 hlt8
              obtain ⟨dl, hdl⟩ : ∃ dl, dl = ds.length := ⟨_, rfl⟩
              rw [← hdl] at HDS ⊢
              clear hdl
              obtain ⟨q8, hq8⟩ : ∃ q8, q8 = w8.heap.size := ⟨_, rfl⟩
              obtain ⟨W8, hW8⟩ : ∃ W8 : World, W8 = w8.alloc (.cells #[.int .i64 (n : Int), .int .i64 0, .slice p1 n g1, .slice p2 dl g2] 25) := ⟨_, rfl⟩
              have hbx8 : W8.heap[q8]? = some (.cells #[.int .i64 (n : Int), .int .i64 0, .slice p1 n g1, .slice p2 dl g2] 25 (0, 0)) := by rw [hW8, hq8]; exact heap_alloc_new w8 _
              have y0 : W8.cell? ⟨q8, 0, none⟩ = some (.int .i64 (n : Int)) := by rw [cell_of_row _ _ _ _ _ _ hbx8]; rfl
              have y1 : W8.cell? ⟨q8, 1, none⟩ = some (.int .i64 0) := by rw [cell_of_row _ _ _ _ _ _ hbx8]; rfl
              have y2 : W8.cell? ⟨q8, 2, none⟩ = some (.slice p1 n g1) := by rw [cell_of_row _ _ _ _ _ _ hbx8]; rfl
              have y3 : W8.cell? ⟨q8, 3, none⟩ = some (.slice p2 dl g2) := by rw [cell_of_row _ _ _ _ _ _ hbx8]; rfl
              have hb8 : Below w8.heap.size w8 W8 := by rw [hW8]; exact bl_alloc w8 _
              have HW8 : Hid (w8.alloc (.cells #[.int .i64 (n : Int), .int .i64 0, .slice p1 n g1, .slice p2 dl g2] 25) = W8 ∧ w8.heap.size = q8) := ⟨hW8.symm, hq8.symm⟩
              have H9 : Hid (LawAt w W8 w1.heap.size b m v8 T8 a l ∧ EntsAt W8 w1.heap.size va (l.filter fun x => inB fr tk x.key) ∧ PrfAt W8 w1.heap.size (mkP l 0 n ds) p1 p2) := ⟨H8.out.1.low hb8, H8.out.2.1.keep (Fx.of_below hb8 H8.out.1.bk.le), H8.out.2.2.2.2.2.2.2.keep (Fx.of_below hb8 H8.out.1.bk.le)⟩
              clear hW8 hq8 hbx8 hb8
              go_upto_region 18 with fail
              rw [HW8.out.1, HW8.out.2]
              have HH := range_all w1.heap.size b m v8 T8 l t d ds fr tk p1 p2 g1 g2 W8 H9.out.1.bk (by rw [← HN.out]; exact H9.out.2.2) H8.out.2.2.2.2.2.1 (by have := H8.out.2.2.2.2.1; omega) HRI.out (by rw [← HN.out]; exact H8.out.2.2.2.2.2.2.1) H8.out.2.2.1 H8.out.2.2.2.1
              rw [← HN.out, HDS.out, ← HKN.out] at HH
              have HHH := Lib.hid HH
              clear HH
              go_wp2_with fail
              refine HHH.out.mono ?_
              rintro e w9 ⟨⟨sa, sc, rfl, hsl⟩, v9, T9, h9, hf9⟩
              have H10 : Hid (LawAt w w9 w1.heap.size b m v9 T9 a l) := H9.out.1.next h9 hf9
              have hsm := same_yes sa va sc vc kn (l.filter fun x => inB fr tk x.key) w9 HKN.out hsl (H9.out.2.1.keep hf9).lies (by omega)
              have HSM := Lib.hid hsm
              clear h9 hf9 hsl hsm y0 y1 y2 y3
              go_wp2_with fail
              refine HSM.out.mono ?_
              rintro e w10 ⟨rfl, hb10⟩
              have H11 : Hid (LawAt w w10 w1.heap.size b m v9 T9 a l) := H10.out.low hb10
              clear hb10
              go_wp2_with fail
              go_ret
              exact ⟨rfl, H11.out.below⟩
end Go.Proofs.Ytlepjjcnlcnnfaa.Merkle
