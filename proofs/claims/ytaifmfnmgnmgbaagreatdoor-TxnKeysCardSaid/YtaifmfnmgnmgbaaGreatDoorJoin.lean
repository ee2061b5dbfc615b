/- A store: entries with others laid in. -/
import Derived.Test.YtaifmfnmgnmgbaaGreatDoorStA
import Derived.Deep.AppendLies
import Derived.Laws.AppendOwn
import Derived.Laws.AppendOwnNone
namespace Go.Proofs.YtaifmfnmgnmgbaaGreatDoor
open Go.RowKit Go.My
/-- Entries with others laid in. -/
def joinE : List Ent → List Ent → List Ent
  | [], M => M
  | a :: L, [] => a :: L
  | a :: L, b :: M => if lessK a.key b.key = true then a :: joinE L (b :: M) else if a.key = b.key then b :: joinE L M else b :: joinE (a :: L) M
termination_by L M => L.length + M.length
theorem ent_info : (Tryz.prog.info? 42).map (fun i => (i.zero, i.size, i.bytes)) = some (some (entA ent0), 3, 40) := by kernel_rfl
theorem flatE_len (L : List Ent) : (L.flatMap entL).length = L.length * 3 := by
  induction L with
  | nil => rfl
  | cons x L ih => rw [List.flatMap_cons, List.length_append, ih, entL_len, List.length_cons]; omega
theorem lies_flat {w : World} {g o : Nat} {L : List Ent} (h : Lies w (some ⟨g, o, none⟩) 3 entL L) {j : Nat} {u : Value} (hj : (L.flatMap entL)[j]? = some u) : w.cell? ⟨g, o + j, none⟩ = some u := by
  have hl := (List.getElem?_eq_some_iff.1 hj).1
  rw [flatE_len] at hl
  have hi : j / 3 < L.length := by omega
  obtain ⟨g', o', e, _, hc⟩ := h (j / 3) _ (List.getElem?_eq_getElem hi)
  obtain ⟨rfl, rfl⟩ : g = g' ∧ o = o' := by simpa using e
  have e2 : j / 3 * 3 + j % 3 = j := by omega
  have := hc (j % 3) u (by rw [← hj]; conv => rhs; rw [← e2]
                           exact (flat_get entL 3 entL_len L (j / 3) (j % 3) _ (List.getElem?_eq_getElem hi) (by omega)).symm)
  rw [Nat.add_assoc, e2] at this
  exact this
theorem one_cells {L : List Ent} : ∀ u ∈ L.flatMap entL, u.oneCell' = true := by
  intro u hu
  obtain ⟨e, _, h⟩ := List.mem_flatMap.1 hu
  simp only [entL, List.mem_cons, List.not_mem_nil, or_false] at h
  rcases h with rfl | rfl | rfl <;> rfl
/-- 'append' of entries that lie somewhere, onto a row of the call's own. -/
theorem append_src {w : World} {ops : Array Oper} {rest : List Oper} {o : Oper} {a : Act} {Q : Exit → Act → World → Prop} (hgd : o.guard = none) (s x : Operand) 
    (ho : o.op = .call { callee := .builtin .append, args := #[s, x], argTypes := #[38, 38] })
    (base : Nat) (v : Value) (R M : List Ent) (hs : a.eval s = v) (hown : w.ownsRow base 42 3 v R.length (R.flatMap entL)) (ax : Option Addr) (c : Nat) (hx : a.eval x = .slice ax M.length c) (hsrc : SrcAny w ax c M) (hR : R.length ≤ 100000) (hM : M.length ≤ 100000) (hbase : base ≤ w.heap.size)
    (h : ∀ v' w', w'.ownsRow base 42 3 v' (R ++ M).length ((R ++ M).flatMap entL) → w.grownBy w' v.ownBlock → wpList Tryz.prog ops Q rest (a.put o.dst v') w') : wpList Tryz.prog ops Q (o :: rest) a w := by
  obtain ⟨i0, hi0, hz0, hz1, hz2⟩ := info_parts ent_info
  cases ax with
  | none =>
    obtain rfl := hsrc.nil rfl
    have hM0 : M = [] := by
      cases M with
      | nil => rfl
      | cons y M => obtain ⟨g, o, h1, _⟩ := hsrc.lies 0 y rfl; cases h1
    subst hM0
    refine wpList_append_own_none hgd s x 38 ho base 42 i0 3 Tryz.underlying38 hi0 v R.length _ hs hown hx ?_
    exact h v w (by simpa using hown) (World.grownBy.refl w _)
  | some ad =>
    refine wpList_append_own w hgd s x 38 ho base 42 i0 (entA ent0) 3 40 Tryz.underlying38 hi0 hz0 hz1 hz2 rfl (by decide) v R.length _ hs hown ad M.length c (M.flatMap entL) hx (flatE_len M) (fun j u hj => ?_) one_cells (by unfold maxLen; omega) (by omega) hbase (fun v' w' h2 h3 _ => ?_)
    · have hpos : 0 < M.length := by
        have := (List.getElem?_eq_some_iff.1 hj).1
        rw [flatE_len] at this
        omega
      obtain ⟨g, o', he, _⟩ := hsrc.lies 0 _ (List.getElem?_eq_getElem hpos)
      obtain rfl : ad = ⟨g, o', none⟩ := Option.some.inj he
      rw [Addr.add_lit]
      exact lies_flat hsrc.lies hj
    · exact h v' w' (by simpa using h2) h3
def JoinLeft (w : World) (R : List Ent) (e : Ending) (w' : World) : Prop := ∃ v, e = .returned v ∧ w'.ownsRow w.heap.size 42 3 v R.length (R.flatMap entL) ∧ Below w.heap.size w w'
theorem join_len : ∀ (L M : List Ent), (joinE L M).length ≤ L.length + M.length
  | [], M => by simp [joinE]
  | a :: L, [] => by simp [joinE]
  | a :: L, b :: M => by
    have h1 := join_len L (b :: M)
    have h2 := join_len L M
    have h3 := join_len (a :: L) M
    unfold joinE
    simp only [List.length_cons] at h1 h3 ⊢
    split
    · simp only [List.length_cons]; omega
    · split <;> simp only [List.length_cons] <;> omega
termination_by L M => L.length + M.length
theorem src_tail {w : World} {g o cap : Nat} {e : Ent} {L : List Ent} (h : SrcAny w (some ⟨g, o, none⟩) cap (e :: L)) : SrcAny w (some ⟨g, o + 3, none⟩) (cap - 1) L :=
  ⟨fun i x hi => by
    obtain ⟨g', o', h1, h2, h3⟩ := h.lies (i + 1) x (by simpa using hi)
    obtain ⟨rfl, rfl⟩ : g = g' ∧ o = o' := by simpa using h1
    exact ⟨g, o + 3, rfl, h2, fun j v hj => by have := h3 j v hj; rw [Nat.add_mul] at this; rw [show o + 3 + i * 3 + j = o + (i * 3 + 1 * 3) + j by omega]; exact this⟩, (fun h => by cases h), by have := h.room; simp only [List.length_cons] at this; omega, by have := h.max; omega⟩
theorem src_cut {w : World} {g o cap : Nat} {e : Ent} {L : List Ent} (h : SrcAny w (some ⟨g, o, none⟩) cap (e :: L)) : SrcAny w (if cap = 1 then some ⟨g, o, none⟩ else some ⟨g, o + 3, none⟩) (cap - 1) L := by
  split
  · rename_i h1
    have hr := h.room
    simp only [List.length_cons, h1] at hr
    obtain rfl : L = [] := List.length_eq_zero_iff.1 (by omega)
    exact ⟨fun i x hi => by simp at hi, (fun h => by cases h), by simp, by have := h.max; omega⟩
  · exact src_tail h
theorem src_one {w : World} {H : Nat} {e : Ent} (h : w.heap[H]? = some (.cells #[.string e.key, .string e.value, .int .i64 e.ver] 42 (0, 0))) : SrcAt w (some ⟨H, 0, none⟩) 1 [e] :=
  ⟨fun i x hi => by
    match i, hi with
    | 0, hi =>
      obtain rfl : e = x := by simpa using hi
      refine ⟨H, 0, rfl, lt_of_heap h, fun j v hj => ?_⟩
      rw [cell_of_row _ _ _ _ _ _ h]
      simp only [Nat.zero_mul, Nat.zero_add]
      simpa [entL] using hj
    | i + 1, hi => simp at hi, (fun h => by cases h), (fun b h => by cases h; rfl), by simp, by unfold maxLen; omega⟩
def lenOf : Value → Nat
  | .slice _ n _ => n
  | _ => 0
set_option maxRecDepth 100000 in
set_option maxHeartbeats 3200000 in
theorem joined_26 (la ma : Option Addr) (lc mc : Nat) (L M : List Ent) (w : World) (hl : SrcAny w la lc L) (hm : SrcAny w ma mc M) (hL : L.length ≤ 1000) (hM : M.length ≤ 1000) :
    Calls Tryz.prog 88 #[.slice la L.length lc, .slice ma M.length mc] w (JoinLeft w (joinE L M)) := by
  have hlc := hl.max
  have hmc := hm.max
  obtain ⟨i0, hi0, hz0, hz1, hz2⟩ := info_parts ent_info
  have HI := Lib.hid hi0
  have HZ := Lib.hid hz0
  have HSI := Lib.hid hz1
  have HY := Lib.hid hz2
  have P0 : Hid (SrcAny w la lc L ∧ SrcAny w ma mc M) := ⟨hl, hm⟩
  have P1 : Hid (joinE L M = [] ++ joinE L M) := rfl
  have P2 : Hid (w.ownsRow w.heap.size 42 3 (.slice none 0 0) ([] : List Ent).length (([] : List Ent).flatMap entL) ∧ Below w.heap.size w w) := ⟨World.ownsRow_nil _ _ _ _, Below.refl _ _⟩
  obtain ⟨J, hJ⟩ : ∃ J, J = joinE L M := ⟨_, rfl⟩
  rw [← hJ]
  have HJ := Lib.hid hJ
  have hsum : L.length + M.length ≤ 2000 := by omega
  clear hi0 hz0 hz1 hz2 hl hm hJ
  go_enter Tryz.func88, Tryz.ntmps88
  go_wp2_with fail
  go_loopw [0, 1, 5] (fun x y o wr => ∃ (la ma : Option Addr) (lc mc : Nat) (L' M' R : List Ent), x = .slice la L'.length lc ∧ y = .slice ma M'.length mc ∧ R.length + L'.length + M'.length ≤ 2000 ∧ lc ≤ maxLen ∧ mc ≤ maxLen ∧ Hid (SrcAny w la lc L' ∧ SrcAny w ma mc M') ∧ Hid (joinE L M = R ++ joinE L' M') ∧
      Hid (wr.ownsRow w.heap.size 42 3 o R.length (R.flatMap entL) ∧ Below w.heap.size w wr)) (fun x y _ _ => lenOf x + lenOf y)
  case atStart => exact ⟨la, ma, lc, mc, L, M, [], rfl, rfl, by simpa using hsum, hlc, hmc, P0, P1, P2⟩
  case round =>
    clear P0 P1 P2 hsum hlc hmc la ma lc mc hL hM
    obtain ⟨la, ma, lc, mc, L', M', R, rfl, rfl, hsum, hlc, hmc, HS, HE, HB⟩ := hrel
    cases L' with
    | nil =>
      have HJR : Hid (J = R ++ [] ++ M') := by show _ = _; rw [HJ.out, HE.out]; simp [joinE]
      go_wp2_with (at_builtin; refine append_src rfl _ _ rfl w.heap.size _ R [] rfl HB.out.1 la lc rfl (HS.out.1.below HB.out.2) (by omega) (by omega) HB.out.2.size ?_)
      intro v' w3 hown hgrow
      have HB3 : Hid (w3.ownsRow w.heap.size 42 3 v' (R ++ []).length ((R ++ []).flatMap entL) ∧ Below w.heap.size w w3) := by
        refine ⟨by simpa using hown, ?_⟩
        have hW : Wrote u5.ownBlock.toList _ w3 := Wrote.of_grown hgrow
        exact HB.out.2.trans (hW.below HB.out.2.size fun g hg' => by
          simp only [Option.mem_toList] at hg'
          exact (row_block HB.out.1 hg').1)
      clear hown hgrow
      go_wp2_with (at_builtin; refine append_src rfl _ _ rfl w.heap.size _ (R ++ []) M' rfl HB3.out.1 ma mc rfl (HS.out.2.below HB3.out.2) (by simp only [List.length_append, List.length_nil]; omega) (by first | omega | simp) HB3.out.2.size ?_)
      intro v2 w4 hown hgrow
      have HB4 : Hid (w4.ownsRow w.heap.size 42 3 v2 (R ++ [] ++ M').length ((R ++ [] ++ M').flatMap entL) ∧ Below w.heap.size w w4) := by
        refine ⟨by simpa using hown, ?_⟩
        have hW : Wrote v'.ownBlock.toList _ w4 := Wrote.of_grown hgrow
        exact HB3.out.2.trans (hW.below HB3.out.2.size fun g hg' => by
          simp only [Option.mem_toList] at hg'
          exact (row_block HB3.out.1 hg').1)
      clear hown hgrow
      go_wp2_with fail
      go_ret
      exact ⟨v2, rfl, by rw [HJR.out]; exact HB4.out.1, HB4.out.2⟩
    | cons e L1 =>
      cases M' with
      | nil =>
        simp only [List.length_cons, List.length_nil] at hsum
        have HJR : Hid (J = R ++ (e :: L1) ++ []) := by show _ = _; rw [HJ.out, HE.out]; simp [joinE]
        go_wp2_with (at_builtin; refine append_src rfl _ _ rfl w.heap.size _ R (e :: L1) rfl HB.out.1 la lc rfl (HS.out.1.below HB.out.2) (by omega) (by simp only [List.length_cons]; omega) HB.out.2.size ?_)
        intro v' w3 hown hgrow
        have HB3 : Hid (w3.ownsRow w.heap.size 42 3 v' (R ++ (e :: L1)).length ((R ++ (e :: L1)).flatMap entL) ∧ Below w.heap.size w w3) := by
          refine ⟨by simpa using hown, ?_⟩
          have hW : Wrote u5.ownBlock.toList _ w3 := Wrote.of_grown hgrow
          exact HB.out.2.trans (hW.below HB.out.2.size fun g hg' => by
            simp only [Option.mem_toList] at hg'
            exact (row_block HB.out.1 hg').1)
        clear hown hgrow
        go_wp2_with (at_builtin; refine append_src rfl _ _ rfl w.heap.size _ (R ++ (e :: L1)) [] rfl HB3.out.1 ma mc rfl (HS.out.2.below HB3.out.2) (by simp only [List.length_append, List.length_cons]; omega) (by first | omega | simp) HB3.out.2.size ?_)
        intro v2 w4 hown hgrow
        have HB4 : Hid (w4.ownsRow w.heap.size 42 3 v2 (R ++ (e :: L1) ++ []).length ((R ++ (e :: L1) ++ []).flatMap entL) ∧ Below w.heap.size w w4) := by
          refine ⟨by simpa using hown, ?_⟩
          have hW : Wrote v'.ownBlock.toList _ w4 := Wrote.of_grown hgrow
          exact HB3.out.2.trans (hW.below HB3.out.2.size fun g hg' => by
            simp only [Option.mem_toList] at hg'
            exact (row_block HB3.out.1 hg').1)
        clear hown hgrow
        go_wp2_with fail
        go_ret
        exact ⟨v2, rfl, by rw [HJR.out]; exact HB4.out.1, HB4.out.2⟩
      | cons f M1 =>
        obtain ⟨g, o, rfl, hg, ec⟩ := (HS.out.1.lies.below HB.out.2) 0 e rfl
        obtain ⟨g', o', rfl, hg', fc⟩ := (HS.out.2.lies.below HB.out.2) 0 f rfl
        have e0 : wr.cell? ⟨g, o, none⟩ = some (.string e.key) := by simpa using ec 0 _ rfl
        have e1 : wr.cell? ⟨g, o + 1, none⟩ = some (.string e.value) := by simpa using ec 1 _ rfl
        have e2 : wr.cell? ⟨g, o + 2, none⟩ = some (.int .i64 e.ver) := by simpa using ec 2 _ rfl
        have f0 : wr.cell? ⟨g', o', none⟩ = some (.string f.key) := by simpa using fc 0 _ rfl
        have f1 : wr.cell? ⟨g', o' + 1, none⟩ = some (.string f.value) := by simpa using fc 1 _ rfl
        have f2 : wr.cell? ⟨g', o' + 2, none⟩ = some (.int .i64 f.ver) := by simpa using fc 2 _ rfl
        have hll : L1.length + 1 ≤ lc := HS.out.1.room
        have hml : M1.length + 1 ≤ mc := HS.out.2.room
        simp only [List.length_cons] at hsum ⊢
        obtain ⟨c, hc⟩ : ∃ c, c = cmpK e.key f.key := ⟨_, rfl⟩
        have HQ : Hid (∀ W, Calls Tryz.prog 91 #[.string e.key, .string f.key] W fun r w' => r = .returned (.int .i64 c) ∧ w' = W) := fun W => by rw [hc]; exact compare_30 _ _ W
        have HDR : Hid (∀ nq, Below wr.heap.size wr (wr.drewN nq)) := fun nq => ⟨rfl, rfl, rfl, by simp, fun _ _ => rfl⟩
        have HT1 := Lib.hid (src_cut HS.out.1)
        have HT2 := Lib.hid (src_cut HS.out.2)
        have HJE : Hid (joinE (e :: L1) (f :: M1) = if lessK e.key f.key = true then e :: joinE L1 (f :: M1) else if e.key = f.key then f :: joinE L1 M1 else f :: joinE (e :: L1) M1) := by show _ = _; rw [joinE]
        rcases (by rw [hc]; exact cmp_three e.key f.key : c = -1 ∨ c = 0 ∨ c = 1) with h | h | h
        · have HE2 : Hid (joinE L M = (R ++ [e]) ++ joinE L1 (f :: M1)) := by
            show _ = _
            have hlt : lessK e.key f.key = true := cmp_neg.1 (by rw [← hc, h]; decide)
            rw [HE.out, HJE.out, if_pos hlt]
            simp
          subst h
          clear ec fc hc
          by_cases hl1 : lc = 1 <;> by_cases hm1 : mc = 1
          all_goals
            go_wp2_with fail
            go_quiet ((go_at_call 91; exact Calls.quiet_of_same (HQ.out _)))
            go_wp2_with (at_builtin; refine append_src rfl _ _ rfl w.heap.size _ R [e] rfl (row_below (row_below HB.out.1 (HDR.out nq)) ((Below.refl _ _).alloc (Nat.le_refl _) _)) (some ⟨(wr.drewN nq).heap.size, 0, none⟩) 1 rfl (src_one (heap_alloc_new _ _)).any (by omega) (by simp) (by have := HB.out.2.size; simp; omega) ?_)
            intro v' w3 hown hgrow
            have HB3 : Hid (w3.ownsRow w.heap.size 42 3 v' (R ++ [e]).length ((R ++ [e]).flatMap entL) ∧ Below w.heap.size w w3) := by
              refine ⟨by simpa using hown, ?_⟩
              have hb := HB.out.2.trans (((HDR.out nq).trans ((Below.refl _ (wr.drewN nq)).alloc (Nat.le_refl _) (.cells #[.string e.key, .string e.value, .int .i64 e.ver] 42) |>.mono (HDR.out nq).size)).mono HB.out.2.size)
              have hW : Wrote u5.ownBlock.toList _ w3 := Wrote.of_grown hgrow
              exact hb.trans (hW.below hb.size fun g hg' => by
                simp only [Option.mem_toList] at hg'
                exact (row_block HB.out.1 hg').1)
            clear hown hgrow
            go_wp2_with fail
            exact ⟨⟨_, _, _, _, L1, f :: M1, R ++ [e], rfl, by simp [hm1], by simp; omega, by omega, hmc, ⟨by first | exact HT1.out | simpa [hl1] using HT1.out, HS.out.2⟩, HE2, HB3⟩, by simp [lenOf]⟩
        · have HE2 : Hid (joinE L M = (R ++ [f]) ++ joinE L1 M1) := by
            show _ = _
            have heq : e.key = f.key := cmp_zero.1 (by rw [← hc, h])
            have hnl : ¬ lessK e.key f.key = true := by rw [heq, lessK_irr]; simp
            rw [HE.out, HJE.out, if_neg hnl, if_pos heq]
            simp
          subst h
          clear ec fc hc
          by_cases hl1 : lc = 1 <;> by_cases hm1 : mc = 1
          all_goals
            go_wp2_with fail
            go_quiet ((go_at_call 91; exact Calls.quiet_of_same (HQ.out _)))
            go_wp2_with (at_builtin; refine append_src rfl _ _ rfl w.heap.size _ R [f] rfl (row_below (row_below HB.out.1 (HDR.out nq)) ((Below.refl _ _).alloc (Nat.le_refl _) _)) (some ⟨(wr.drewN nq).heap.size, 0, none⟩) 1 rfl (src_one (heap_alloc_new _ _)).any (by omega) (by simp) (by have := HB.out.2.size; simp; omega) ?_)
            intro v' w3 hown hgrow
            have HB3 : Hid (w3.ownsRow w.heap.size 42 3 v' (R ++ [f]).length ((R ++ [f]).flatMap entL) ∧ Below w.heap.size w w3) := by
              refine ⟨by simpa using hown, ?_⟩
              have hb := HB.out.2.trans (((HDR.out nq).trans ((Below.refl _ (wr.drewN nq)).alloc (Nat.le_refl _) (.cells #[.string f.key, .string f.value, .int .i64 f.ver] 42) |>.mono (HDR.out nq).size)).mono HB.out.2.size)
              have hW : Wrote u5.ownBlock.toList _ w3 := Wrote.of_grown hgrow
              exact hb.trans (hW.below hb.size fun g hg' => by
                simp only [Option.mem_toList] at hg'
                exact (row_block HB.out.1 hg').1)
            clear hown hgrow
            go_wp2_with fail
            exact ⟨⟨_, _, _, _, L1, M1, R ++ [f], rfl, rfl, by simp; omega, by omega, by omega, ⟨by first | exact HT1.out | simpa [hl1] using HT1.out, by first | exact HT2.out | simpa [hm1] using HT2.out⟩, HE2, HB3⟩, by simp [lenOf]; omega⟩
        · have HE2 : Hid (joinE L M = (R ++ [f]) ++ joinE (e :: L1) M1) := by
            show _ = _
            have hne : ¬ e.key = f.key := fun q => by have := cmp_zero.2 q; rw [← hc, h] at this; cases this
            have hnl : ¬ lessK e.key f.key = true := fun q => by have := cmp_neg.2 q; rw [← hc, h] at this; exact absurd this (by decide)
            rw [HE.out, HJE.out, if_neg hnl, if_neg hne]
            simp
          subst h
          clear ec fc hc
          by_cases hl1 : lc = 1 <;> by_cases hm1 : mc = 1
          all_goals
            go_wp2_with fail
            go_quiet ((go_at_call 91; exact Calls.quiet_of_same (HQ.out _)))
            go_wp2_with (at_builtin; refine append_src rfl _ _ rfl w.heap.size _ R [f] rfl (row_below (row_below HB.out.1 (HDR.out nq)) ((Below.refl _ _).alloc (Nat.le_refl _) _)) (some ⟨(wr.drewN nq).heap.size, 0, none⟩) 1 rfl (src_one (heap_alloc_new _ _)).any (by omega) (by simp) (by have := HB.out.2.size; simp; omega) ?_)
            intro v' w3 hown hgrow
            have HB3 : Hid (w3.ownsRow w.heap.size 42 3 v' (R ++ [f]).length ((R ++ [f]).flatMap entL) ∧ Below w.heap.size w w3) := by
              refine ⟨by simpa using hown, ?_⟩
              have hb := HB.out.2.trans (((HDR.out nq).trans ((Below.refl _ (wr.drewN nq)).alloc (Nat.le_refl _) (.cells #[.string f.key, .string f.value, .int .i64 f.ver] 42) |>.mono (HDR.out nq).size)).mono HB.out.2.size)
              have hW : Wrote u5.ownBlock.toList _ w3 := Wrote.of_grown hgrow
              exact hb.trans (hW.below hb.size fun g hg' => by
                simp only [Option.mem_toList] at hg'
                exact (row_block HB.out.1 hg').1)
            clear hown hgrow
            go_wp2_with fail
            exact ⟨⟨_, _, _, _, e :: L1, M1, R ++ [f], by simp [hl1], rfl, by simp; omega, hlc, by omega, ⟨HS.out.1, by first | exact HT2.out | simpa [hm1] using HT2.out⟩, HE2, HB3⟩, by simp [lenOf]⟩
end Go.Proofs.YtaifmfnmgnmgbaaGreatDoor
