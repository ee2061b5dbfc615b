/- Merkle: MerkleOrder. -/
import Derived.Test.YtlepjjcnlcnnfaaDoorMkAg
import Derived.Laws.AppendOwnNone
namespace Go.Proofs.YtlepjjcnlcnnfaaDoor.Merkle
open Go.RowKit Go.My

def upB (l : List Ent) (i : Nat) : Bool := decide (i = 0) || match l[i]?, l[i - 1]? with
  | some x, some y => lessK y.key x.key
  | _, _ => true
def riseB (l : List Ent) (j : Nat) : Bool := (List.range j).all (upB l)
theorem rise_next (l : List Ent) (j : Nat) : riseB l (j + 1) = (riseB l j && upB l j) := by
  unfold riseB
  rw [List.range_succ, List.all_append]
  simp
theorem okB_up {l : List Ent} {i : Nat} (h : okB l i = true) : upB l i = true := by
  unfold okB at h
  unfold upB
  cases hi : l[i]? with
  | none => simp
  | some x =>
    rw [hi] at h
    simp only [Bool.and_eq_true] at h
    cases hj : l[i - 1]? with
    | none => simp
    | some y =>
      have h2 := h.2.2
      rw [hj] at h2
      exact h2
theorem not_right {l : List Ent} (h : riseB l l.length = false) : rightB l = false := by
  cases hr : rightB l with
  | false => rfl
  | true =>
    have : riseB l l.length = true := by
      unfold riseB
      rw [List.all_eq_true]
      intro i hi
      exact okB_up (right_all hr i (by simpa using hi))
    rw [h] at this
    cases this
theorem up_at {l : List Ent} (h : riseB l l.length = true) {i : Nat} {x y : Ent} (hx : l[i]? = some x) (hy : l[i + 1]? = some y) : lessK x.key y.key = true := by
  unfold riseB at h
  rw [List.all_eq_true] at h
  have hi : i + 1 < l.length := (List.getElem?_eq_some_iff.1 hy).1
  have h1 := h (i + 1) (by simpa using hi)
  unfold upB at h1
  rw [hy, Nat.add_sub_cancel, hx] at h1
  simpa using h1
theorem turned_not {l : List Ent} (h : riseB l l.length = true) (h2 : 2 ≤ l.length) : rightB l.reverse = false := by
  cases hr : rightB l.reverse with
  | false => rfl
  | true =>
    obtain ⟨x, hx⟩ : ∃ x, l[l.length - 2]? = some x := ⟨_, List.getElem?_eq_getElem (by omega)⟩
    obtain ⟨y, hy⟩ : ∃ y, l[l.length - 2 + 1]? = some y := ⟨_, List.getElem?_eq_getElem (by omega)⟩
    have h3 := up_at h hx hy
    have h4 := okB_up (right_all hr 1 (by simp; omega))
    have r0 : l.reverse[0]? = some y := by
      rw [List.getElem?_reverse (by omega)]
      rw [show l.length - 1 - 0 = l.length - 2 + 1 by omega]
      exact hy
    have r1 : l.reverse[1]? = some x := by
      rw [List.getElem?_reverse (by omega)]
      rw [show l.length - 1 - 1 = l.length - 2 by omega]
      exact hx
    unfold upB at h4
    rw [r1, Nat.sub_self, r0] at h4
    have h5 : lessK y.key x.key = true := by simpa using h4
    have h6 := lessK_trans h3 h5
    rw [lessK_irr] at h6
    cases h6
theorem row_ents {w : World} {base bB k vc : Nat} {va : Option Addr} {sub : List Ent} (hrow : w.ownsRow base 36 3 (.slice va k vc) k (sub.flatMap entL)) (hk : k = sub.length) : EntsAt w bB va sub := by
  refine ⟨row_liesAt hrow entL_len hk, fun g o e hne => ?_⟩
  have hg : (Value.slice va k vc).ownBlock = some g := by
    rw [e]
    rcases hrow with ⟨hl, h | ⟨x, cp, cur, h1, _⟩⟩
    · have := h.2
      exact absurd (List.length_eq_zero_iff.1 (by omega)) hne
    · rw [e] at h1
      cases h1
      rfl
  obtain ⟨_, cur, hcc⟩ := row_block hrow hg
  exact ⟨lt_of_heap hcc, .inr ⟨_, hcc, rfl⟩⟩
/-- what the round keeps: the entries turned about -/
structure OrRel (wb : World) (l : List Ent) (j : Nat) (r : Bool) (u : Value) (wr : World) : Prop where
  rises : r = riseB l j
  row : wr.ownsRow wb.heap.size 36 3 u j ((l.take j).reverse.flatMap entL)
  below : Below wb.heap.size wb wr
  first : j = 0 → u = .slice none 0 0
theorem OrRel.next {wb : World} {l : List Ent} {j : Nat} {r r' : Bool} {u u' : Value} {wr w3 : World} {x : Ent} (h : OrRel wb l j r u wr) (hx : l[j]? = some x) (hr : r' = (r && upB l j)) (hrow : w3.ownsRow wb.heap.size 36 3 u' (j + 1) (entL x ++ (l.take j).reverse.flatMap entL)) (hb : Below wb.heap.size wb w3) : OrRel wb l (j + 1) r' u' w3 := by
  refine ⟨by rw [hr, rise_next, h.rises], ?_, hb, fun h => by omega⟩
  rw [List.take_add_one, hx, List.reverse_append]
  simpa using hrow
theorem OrRel.none {wb : World} {l : List Ent} {r : Bool} {u : Value} {wr W : World} {x : Ent} (h : OrRel wb l 0 r u wr) (hx : l[0]? = some x) (hb : Below wr.heap.size wr W) (hrow : (W.alloc (.cells #[.string x.key, .string x.value, .int .i64 x.ver] 36)).ownsRow wb.heap.size 36 3 (.slice (some ⟨W.heap.size, 0, none⟩) 1 1) 1 (entL x)) : OrRel wb l 1 true (.slice (some ⟨W.heap.size, 0, none⟩) 1 1) (W.alloc (.cells #[.string x.key, .string x.value, .int .i64 x.ver] 36)) := by
  have hu : upB l 0 = true := rfl
  have hr : r = true := by rw [h.rises]; rfl
  refine h.next hx (by rw [hr, hu]; rfl) ?_ ?_
  · simpa using hrow
  · exact (h.below.trans (hb.mono h.below.size)).trans ((bl_alloc W _).mono (Nat.le_trans h.below.size hb.size))
theorem OrRel.app {wb : World} {l : List Ent} {j : Nat} {r r' : Bool} {u u' : Value} {wr W w3 : World} {x : Ent} {ob : Obj} (h : OrRel wb l j r u wr) (hx : l[j]? = some x) (hb : Below wr.heap.size wr W) (hr : r' = (r && upB l j))
    (hown : w3.ownsRow wb.heap.size 36 3 u' (1 + j) (entL x ++ (l.take j).reverse.flatMap entL)) (hg : (W.alloc ob).grownBy w3 (some W.heap.size)) : OrRel wb l (j + 1) r' u' w3 := by
  refine h.next hx hr (by rw [Nat.add_comm j 1]; exact hown) ?_
  refine h.below.trans ?_
  exact ((((Wrote.of_below (S := []) hb).mono (T := [W.heap.size]) (by simp)).alloc ob).trans (Wrote.of_grown hg)).below h.below.size fun g hg => by
    have e : g = W.heap.size := by simpa using hg
    rw [e]
    exact Nat.le_trans h.below.size hb.size
theorem up_val {l : List Ent} {p : Nat} {x y : Ent} (hx : l[p + 1]? = some x) (hy : l[p]? = some y) : upB l (p + 1) = lessK y.key x.key := by
  unfold upB
  rw [hx, Nat.add_sub_cancel, hy]
  simp
theorem flat_one3 (L : List Ent) : ∀ u ∈ L.flatMap entL, u.oneCell' = true := by
  intro u hu
  obtain ⟨x, _, hx⟩ := List.mem_flatMap.1 hu
  simp only [entL, List.mem_cons, List.not_mem_nil, or_false] at hx
  rcases hx with rfl | rfl | rfl <;> rfl
theorem flat_len3 (L : List Ent) : (L.flatMap entL).length = L.length * 3 := by
  induction L with
  | nil => rfl
  | cons x L ih => rw [List.flatMap_cons, List.length_append, ih, List.length_cons, entL_len]; omega
theorem new_row (w : World) (x : Ent) (base : Nat) (hb : base ≤ w.heap.size) : (w.alloc (.cells #[.string x.key, .string x.value, .int .i64 x.ver] 36)).ownsRow base 36 3 (.slice (some ⟨w.heap.size, 0, none⟩) 1 1) 1 (entL x) :=
  ⟨by simp [entL], .inr ⟨_, 1, _, rfl, hb, heap_alloc_new w _, Nat.le_refl _, by unfold maxLen; omega, by simp, by simp [entL]⟩⟩
set_option maxRecDepth 100000 in
set_option maxHeartbeats 6400000 in
theorem orderlaw_any (a : Option Addr) (cap : Nat) (l : List Ent) (w : World) (hty : TypeIs w) (hl : LIn w a l) (hc : l.length ≤ cap) (hc9 : cap ≤ maxLen) :
    Calls Tryd.prog 4 #[.slice a l.length cap] w fun e w' => e = .returned (.bool true) ∧ Below w.heap.size w w' := by
  have HIN := Lib.hid hl
  have HTY := Lib.hid hty
  have HCAP := Lib.hid (And.intro hc hc9)
  obtain ⟨n, hn⟩ : ∃ n, n = l.length := ⟨_, rfl⟩
  have HN := Lib.hid hn
  rw [← hn]
  rw [← hn] at hc
  unfold maxLen at hc9
  have i0 : (n : Int) ≤ (cap : Int) := by omega
  have i9 : (cap : Int) ≤ 9223372036854775807 := by omega
  clear hl hn hty
  go_enter Tryd.func4, Tryd.ntmps4
  go_wp2_with fail
  refine (head_any w).mono ?_
  rintro e w1 ⟨rfl, hb1⟩
  have HB1 := Lib.hid hb1
  clear hb1
  go_wp2_with fail
  refine (Book.new_any w1).mono ?_
  rintro e w2 ⟨b, m, v, rfl, hs2, hb2⟩
  have hB : w.heap.size ≤ w1.heap.size := HB1.out.size
  have hb02 : Below w.heap.size w w2 := HB1.out.trans (hb2.mono hB)
  have H2 : Hid (LawAt w w2 w1.heap.size b m v [] a l) := ⟨⟨hs2, List.nodup_nil⟩, HIN.out.ents hB hb02, hB, hb02⟩
  clear hs2 hb2 hb02 hB
  go_wp2_with fail
  have hg := great_any a l cap w2 H2.out.ents.lies HIN.out.most
  rw [← HN.out] at hg
  refine hg.mono ?_
  rintro e w3 ⟨g, rfl, hg, hb3⟩
  have H3 : Hid (LawAt w w3 w1.heap.size b m v [] a l) := H2.out.low hb3
  have HG3 := Lib.hid hg
  clear hg hb3
  cases g with
  | true =>
    go_wp2_with fail
    go_ret
    exact ⟨rfl, H3.out.below⟩
  | false =>
    have hn6 : n ≤ 6000 := by rw [HN.out]; exact (HG3.out rfl).1
    have HW : Hid (Wide l) := HIN.out.wide (HG3.out rfl).2
    clear HG3
    have P0 : Hid (OrRel w3 l 0 true (.slice none 0 0) w3) := ⟨rfl, World.ownsRow_nil _ _ _ _, Below.refl _ _, fun _ => rfl⟩
    obtain ⟨i0', hi0, hz0, hz1, hz2⟩ := info_parts ent_info
    have HI := Lib.hid hi0
    have HZ := Lib.hid hz0
    have HS := Lib.hid hz1
    have HY := Lib.hid hz2
    clear hi0 hz0 hz1 hz2
    go_wp2_with fail
    go_loopw [5, 6, 7] (fun r u i wr => ∃ (j : Nat) (x : Bool), j ≤ n ∧ i = .int .i64 j ∧ r = .bool x ∧ Hid (OrRel w3 l j x u wr)) (fun _ _ i _ => n - (intOf i).toNat)
    case atStart => exact ⟨0, true, by omega, rfl, rfl, P0⟩
    case round =>
      clear P0
      obtain ⟨j, x, hj, rfl, rfl, HJ⟩ := hrel
      by_cases hlt : j < n
      · obtain ⟨⟨xk, xu, xn⟩, hx⟩ : ∃ x, l[j]? = some x := ⟨_, List.getElem?_eq_getElem (by rw [← HN.out]; exact hlt)⟩
        obtain ⟨g, o, rfl, lg, hcl⟩ := (H3.out.ents.lies.below HJ.out.below) j _ hx
        have k0 := hcl 0 _ rfl
        have k1 := hcl 1 _ rfl
        have k2 := hcl 2 _ rfl
        simp only [Nat.add_zero] at k0 k1 k2
        have HXJ := Lib.hid hx
        have hj0 : (0 : Int) ≤ (j : Int) := by omega
        have hj1 : (j : Int) < (n : Int) := by omega
        have HND : Hid (∀ (W : World) nq, Below W.heap.size W (W.drewN nq)) := fun W nq => ⟨rfl, rfl, rfl, by simp, fun _ _ => rfl⟩
        have HJ6 : Hid (j ≤ 6000) := by show _ ≤ _; omega
        rcases Nat.eq_zero_or_pos j with hz | hz
        · subst hz
          obtain rfl : x = true := HJ.out.rises
          obtain rfl := HJ.out.first rfl
          simp only [Nat.zero_mul, Nat.add_zero] at k0 k1 k2
          clear hx hcl lg
          go_wp2_with fail
          go_quiet (fail)
          go_wp2_with (at_builtin; refine wpList_append_own_none rfl _ _ 22 rfl w3.heap.size 36 i0' 3 Tryd.underlying22 HI.out _ _ _ rfl (new_row _ ⟨xk, xu, xn⟩ _ (by simp; exact HJ.out.below.size)) rfl ?_)
          go_wp2_with fail
          exact ⟨⟨1, true, by omega, by simp, rfl, HJ.out.none HXJ.out (HND.out _ _) (new_row _ ⟨xk, xu, xn⟩ _ (by simp; exact HJ.out.below.size))⟩, by simp [intOf]; omega⟩
        · obtain ⟨p, HP⟩ : ∃ p, Hid (p + 1 = j) := ⟨j - 1, by show _ = _; omega⟩
          obtain ⟨⟨yk, yu, yn⟩, hy⟩ : ∃ y, l[p]? = some y := ⟨_, List.getElem?_eq_getElem (by have := HP.out; rw [← HN.out]; omega)⟩
          obtain ⟨g', o', he, lg', hcl'⟩ := (H3.out.ents.lies.below HJ.out.below) p _ hy
          cases he
          have m0 := hcl' 0 _ rfl
          simp only [Nat.add_zero] at m0
          have HY0 := Lib.hid hy
          obtain ⟨va, vc, rfl⟩ := row_slice HJ.out.row
          obtain ⟨g2, rfl, -, -⟩ := row_pos HJ.out.row hz
          have HLN : Hid ((l.take j).reverse.length * 3 = j * 3) := by
            show _ = _
            rw [List.length_reverse, List.length_take, Nat.min_eq_left (by have := HN.out; omega)]
          have HRW : Hid (∀ nq : Nat, ∀ (jj : Nat) (uu : Value), ((l.take j).reverse.flatMap entL)[jj]? = some uu → ((wr.drewN nq).alloc (.cells #[.string xk, .string xu, .int .i64 xn] 36)).cell? ((⟨g2, 0, none⟩ : Addr).add jj) = some uu) := fun nq jj uu hjj => by
            have h1 := row_below HJ.out.row ((HND.out wr nq).trans ((bl_alloc _ (.cells #[.string xk, .string xu, .int .i64 xn] 36)).mono (by simp)))
            have h2 : jj < j * 3 := by
              have := (List.getElem?_eq_some_iff.1 hjj).1
              rw [flat_len3] at this
              have := HLN.out
              omega
            rw [Addr.add_lit, Nat.zero_add, h1.cellAt jj h2]
            exact hjj
          have q0 : (0 : Int) ≤ (p : Int) := by omega
          have q1 : (p : Int) < (n : Int) := by have := HP.out; omega
          have q2 : IntKind.i64.wrap ((j : Int) - 1) = (p : Int) := by rw [show (j : Int) - 1 = (p : Int) by have := HP.out; omega]; exact IntWalk.i64_in _ (by omega)
          have q3 : ((j : Int) == 0) = false := by simp; omega
          obtain ⟨lb, hlb⟩ : ∃ lb, Op.bytesLess yk.toList xk.toList = lb := ⟨_, rfl⟩
          have HUP : Hid (upB l j = lb) := by
            show _ = _
            rw [← HP.out, up_val (by rw [HP.out]; exact HXJ.out) HY0.out]
            exact hlb
          clear hx hcl lg hy hcl' lg' hz
          cases x with
          | true =>
            cases lb with
            | true =>
              go_wp2_with fail
              go_quiet (fail)
              go_wp2_with (at_builtin; refine wpList_append_own_at _ rfl _ _ 22 rfl w3.heap.size 36 i0' (.agg #[.string ⟨#[]⟩, .string ⟨#[]⟩, .int .i64 0]) 3 40 Tryd.underlying22 HI.out HZ.out HS.out HY.out rfl (by decide) _ _ _ rfl (new_row _ ⟨xk, xu, xn⟩ _ (by simp; exact HJ.out.below.size)) ⟨g2, 0, none⟩ j vc ((l.take j).reverse.flatMap entL) rfl (by rw [flat_len3]; exact HLN.out) (fun jj uu hjj => (HRW.out _ jj uu hjj)) (flat_one3 _) (by have := HJ6.out; unfold maxLen; omega) (by have := HJ6.out; omega) (by simp; have := HJ.out.below.size; omega) ?_)
              intro v1 w4 hown1 hgrow1 _ _
              obtain ⟨va, vc, rfl⟩ := row_slice hown1
              have HNX : Hid (OrRel w3 l (j + 1) true (.slice va (1 + j) vc) w4) := HJ.out.app HXJ.out (HND.out _ _) (by rw [HUP.out]; rfl) hown1 (by simpa [Value.ownBlock] using hgrow1)
              clear hown1 hgrow1
              go_wp2_with fail
              exact ⟨⟨j + 1, true, by omega, by simp, rfl, HNX⟩, by simp [intOf]; omega⟩
            | false =>
              go_wp2_with fail
              go_quiet (fail)
              go_wp2_with (at_builtin; refine wpList_append_own_at _ rfl _ _ 22 rfl w3.heap.size 36 i0' (.agg #[.string ⟨#[]⟩, .string ⟨#[]⟩, .int .i64 0]) 3 40 Tryd.underlying22 HI.out HZ.out HS.out HY.out rfl (by decide) _ _ _ rfl (new_row _ ⟨xk, xu, xn⟩ _ (by simp; exact HJ.out.below.size)) ⟨g2, 0, none⟩ j vc ((l.take j).reverse.flatMap entL) rfl (by rw [flat_len3]; exact HLN.out) (fun jj uu hjj => (HRW.out _ jj uu hjj)) (flat_one3 _) (by have := HJ6.out; unfold maxLen; omega) (by have := HJ6.out; omega) (by simp; have := HJ.out.below.size; omega) ?_)
              intro v1 w4 hown1 hgrow1 _ _
              obtain ⟨va, vc, rfl⟩ := row_slice hown1
              have HNX : Hid (OrRel w3 l (j + 1) false (.slice va (1 + j) vc) w4) := HJ.out.app HXJ.out (HND.out _ _) (by rw [HUP.out]; rfl) hown1 (by simpa [Value.ownBlock] using hgrow1)
              clear hown1 hgrow1
              go_wp2_with fail
              exact ⟨⟨j + 1, false, by omega, by simp, rfl, HNX⟩, by simp [intOf]; omega⟩
          | false =>
            go_wp2_with fail
            go_quiet (fail)
            go_wp2_with (at_builtin; refine wpList_append_own_at _ rfl _ _ 22 rfl w3.heap.size 36 i0' (.agg #[.string ⟨#[]⟩, .string ⟨#[]⟩, .int .i64 0]) 3 40 Tryd.underlying22 HI.out HZ.out HS.out HY.out rfl (by decide) _ _ _ rfl (new_row _ ⟨xk, xu, xn⟩ _ (by simp; exact HJ.out.below.size)) ⟨g2, 0, none⟩ j vc ((l.take j).reverse.flatMap entL) rfl (by rw [flat_len3]; exact HLN.out) (fun jj uu hjj => (HRW.out _ jj uu hjj)) (flat_one3 _) (by have := HJ6.out; unfold maxLen; omega) (by have := HJ6.out; omega) (by simp; have := HJ.out.below.size; omega) ?_)
            intro v1 w4 hown1 hgrow1 _ _
            obtain ⟨va, vc, rfl⟩ := row_slice hown1
            have HNX : Hid (OrRel w3 l (j + 1) false (.slice va (1 + j) vc) w4) := HJ.out.app HXJ.out (HND.out _ _) (by rw [HUP.out]; rfl) hown1 (by simpa [Value.ownBlock] using hgrow1)
            clear hown1 hgrow1
            go_wp2_with fail
            exact ⟨⟨j + 1, false, by omega, by simp, rfl, HNX⟩, by simp [intOf]; omega⟩
      · obtain rfl : n = j := by omega
        have HOUT : Hid ((l.take n) = l) := List.take_of_length_le (by have := HN.out; omega)
        have hrow := HJ.out.row
        rw [HOUT.out] at hrow
        obtain ⟨va, vc, rfl⟩ := row_slice hrow
        have HRS : Hid (x = riseB l l.length) := by have := HJ.out.rises; rw [HN.out] at this; exact this
        have H4 : Hid (LawAt w wr w1.heap.size b m v [] a l ∧ EntsAt wr w1.heap.size va l.reverse) := ⟨H3.out.low HJ.out.below, row_ents hrow (by rw [List.length_reverse]; exact HN.out)⟩
        have HW9 : Hid (Wide l.reverse) := fun y hy => HW.out y (by simpa using hy)
        have HL9 : Hid (n = l.reverse.length) := by show _ = _; rw [List.length_reverse]; exact HN.out
        clear hrow HJ hlt
        go_wp2_with fail
        have HR := root_some w1.heap.size b m v [] a cap l wr H4.out.1.bk H4.out.1.ents HW.out (by have := HN.out; omega) (by simp)
        rw [← HN.out] at HR
        refine HR.mono ?_
        rintro e w6 ⟨z, ev, v6, T6, rfl, hs6, h6, hx6, hl6, hf6⟩
        have H6 : Hid (LawAt w w6 w1.heap.size b m v6 T6 a l ∧ EntsAt w6 w1.heap.size va l.reverse ∧ T6.length ≤ 2100) := ⟨H4.out.1.next h6 hf6, H4.out.2.keep hf6, by simp at hl6; omega⟩
        have HS6 := Lib.hid hs6
        clear h6 hx6 hl6 hf6 HR hs6
        go_wp2_with fail
        have HR := prove_some w1.heap.size b m v6 T6 a cap l 0 w6 H6.out.1.bk H6.out.1.ents HW.out (by have := HN.out; omega) (by have := H6.out.2.2; omega) HCAP.out.1 HCAP.out.2 (by omega)
        rw [← HN.out, show ((0 : Nat) : Int) = 0 from rfl] at HR
        refine HR.mono ?_
        rintro e w7 ⟨i1, i2, s1, k1, e1, s2, k2, e2, fv, v7, T7, rfl, hs7, h7, hx7, hl7, hf7⟩
        have H7 : Hid (LawAt w w7 w1.heap.size b m v7 T7 a l ∧ EntsAt w7 w1.heap.size va l.reverse ∧ T7.length ≤ 5200) := ⟨H6.out.1.next h7 hf7, H6.out.2.1.keep hf7, by have := H6.out.2.2; omega⟩
        have HS7 := Lib.hid hs7
        clear h7 hx7 hl7 hf7 HR hs7
        obtain ⟨xb, hxb⟩ : ∃ xb, xb = w7.heap.size := ⟨_, rfl⟩
        obtain ⟨W7, hW7⟩ : ∃ W7 : World, W7 = w7.alloc (.cells #[.int .i64 i1, .int .i64 i2, .slice s1 k1 e1, .slice s2 k2 e2] 25) := ⟨_, rfl⟩
        have hb7 : Below w7.heap.size w7 W7 := by rw [hW7]; exact bl_alloc _ _
        have H8 : Hid (LawAt w W7 w1.heap.size b m v7 T7 a l ∧ EntsAt W7 w1.heap.size va l.reverse) := ⟨H7.out.1.low hb7, H7.out.2.1.keep (Fx.of_below hb7 H7.out.1.bk.le)⟩
        have HW7 : Hid (w7.alloc (.cells #[.int .i64 i1, .int .i64 i2, .slice s1 k1 e1, .slice s2 k2 e2] 25) = W7 ∧ w7.heap.size = xb) := ⟨hW7.symm, hxb.symm⟩
        clear hW7 hxb hb7
        go_upto_region 14 with fail
        rw [HW7.out.1, HW7.out.2]
        go_wp2_with fail
        have HR := root_some w1.heap.size b m v7 T7 va vc l.reverse W7 H8.out.1.bk H8.out.2 HW9.out (by have := HL9.out; omega) (by have := H7.out.2.2; omega)
        rw [← HL9.out] at HR
        refine HR.mono ?_
        rintro e w9 ⟨zt, gv, v9, T9, rfl, hs9, h9, hx9, hl9, hf9⟩
        have H9 : Hid (Below w.heap.size w w9) := (H8.out.1.next h9 hf9).below
        have HS9 := Lib.hid hs9
        clear h9 hx9 hl9 hf9 HR hs9
        have HC : Hid (∀ X, Below w9.heap.size w9 X → Calls Tryd.prog 12 #[.iface 88 (.agg #[.string merkW, .int .i64 0, .iface 41 (.int .i64 1)])] X fun e X' => e = .returned (.int .i64 1) ∧ Below X.heap.size X X') := fun X hX => code_w HTY.out 1 X (bl3 H9.out hX)
        cases x with
        | false =>
          have hnr : rightB l = false := not_right HRS.out.symm
          rcases HS6.out with ⟨-, rfl, rfl⟩ | ⟨h0, -⟩
          case inr => rw [hnr] at h0; cases h0
          rcases HS7.out with ⟨-, rfl⟩ | ⟨h0, -⟩
          case inr => rw [hnr] at h0; cases h0
          clear hnr
          unfold wrongV
          go_wp2_with fail
          refine (HC.out _ (Below.refl _ _)).mono ?_
          rintro e wa ⟨rfl, hba⟩
          have HBA := Lib.hid hba
          clear hba
          go_wp2_with fail
          refine (HC.out _ HBA.out).mono ?_
          rintro e wb ⟨rfl, hbb⟩
          have HBB := Lib.hid (bl3 HBA.out hbb)
          clear hbb
          go_wp2_with fail
          go_ret
          exact ⟨rfl, bl3 H9.out HBB.out⟩
        | true =>
          have HCD0 : Hid (Below w9.heap.size w9 w9.drew) := ⟨rfl, rfl, rfl, Nat.le_refl _, fun _ _ => rfl⟩
          have HCDN : Hid (∀ nq, Below w9.heap.size w9 (w9.drewN nq)) := fun nq => ⟨rfl, rfl, rfl, by simp, fun _ _ => rfl⟩
          by_cases h2 : (n : Int) < 2
          · rcases HS6.out with ⟨h0, rfl, rfl⟩ | ⟨h0, rfl, t, d, rfl, -⟩
            · rcases HS7.out with ⟨-, rfl⟩ | ⟨h1, -⟩
              case inr => rw [h0] at h1; cases h1
              clear h0
              unfold wrongV
              go_wp2_with fail
              go_quiet (fail)
              go_wp2_with fail
              go_ret
              exact ⟨rfl, bl3 H9.out (HCDN.out _)⟩
            · rcases HS7.out with ⟨h1, -⟩ | ⟨-, rfl⟩
              case inl => rw [h0] at h1; cases h1
              clear h0
              go_wp2_with fail
              go_quiet (fail)
              go_wp2_with fail
              go_ret
              exact ⟨rfl, bl3 H9.out (HCDN.out _)⟩
          · have h2b : decide ((n : Int) < 2) = false := decide_eq_false h2
            have hnt : rightB l.reverse = false := turned_not HRS.out.symm (by have := HN.out; omega)
            rcases HS9.out with ⟨-, rfl, rfl⟩ | ⟨h0, -⟩
            case inr => rw [hnt] at h0; cases h0
            clear hnt
            rcases HS6.out with ⟨h0, rfl, rfl⟩ | ⟨h0, rfl, t, d, rfl, -⟩
            · rcases HS7.out with ⟨-, rfl⟩ | ⟨h1, -⟩
              case inr => rw [h0] at h1; cases h1
              clear h0
              unfold wrongV
              go_wp2_with fail
              go_cut [2] from 94 to 115 (fun v wx => v = .bool true ∧ Below w9.heap.size w9 wx)
              case first =>
                go_region_held3 (fun X => 0 ≤ X.heap.size) (first | exact Nat.zero_le _ | go_keep)
                  ((go_at_call 12; refine (HC.out _ HCD0.out).mono ?_; rintro e wa ⟨rfl, hba⟩; have HBA := Lib.hid (bl3 HCD0.out hba); clear hba))
                all_goals
                  go_wp2_with fail
                  go_meet
                  exact ⟨rfl, HBA.out⟩
              case rest =>
                obtain ⟨rfl, hst⟩ := hcut
                have HST := Lib.hid hst
                clear hst
                go_wp2_with fail
                go_ret
                exact ⟨rfl, bl3 H9.out HST.out⟩
            · rcases HS7.out with ⟨h1, -⟩ | ⟨-, rfl⟩
              case inl => rw [h0] at h1; cases h1
              clear h0
              unfold wrongV
              go_wp2_with fail
              go_cut [2] from 94 to 115 (fun v wx => v = .bool true ∧ Below w9.heap.size w9 wx)
              case first =>
                go_region_held3 (fun X => 0 ≤ X.heap.size) (first | exact Nat.zero_le _ | go_keep)
                  ((go_at_call 12; refine (HC.out _ HCD0.out).mono ?_; rintro e wa ⟨rfl, hba⟩; have HBA := Lib.hid (bl3 HCD0.out hba); clear hba))
                all_goals
                  go_wp2_with fail
                  go_meet
                  exact ⟨rfl, HBA.out⟩
              case rest =>
                obtain ⟨rfl, hst⟩ := hcut
                have HST := Lib.hid hst
                clear hst
                go_wp2_with fail
                go_ret
                exact ⟨rfl, bl3 H9.out HST.out⟩
end Go.Proofs.YtlepjjcnlcnnfaaDoor.Merkle
