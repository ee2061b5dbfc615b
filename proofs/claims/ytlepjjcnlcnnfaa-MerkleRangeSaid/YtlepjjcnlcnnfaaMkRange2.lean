/- Merkle: Range of any proof. -/
import Derived.Test.YtlepjjcnlcnnfaaMkRange
import Derived.Test.YtlepjjcnlcnnfaaMkHasL
namespace Go.Proofs.Ytlepjjcnlcnnfaa.Merkle
open Go.RowKit Go.My

set_option maxRecDepth 100000 in
theorem range_err (b : Nat) (root : Int) (fr tk : ByteArray) (p : Prf) (a1 a2 : Option Addr) (c1 c2 : Nat) (w : World) (Te : TypeId) (ev : Value) (Q : World → Prop)
    (HC : Calls Try.prog 13 #[.pointer (some ⟨b, 0, none⟩), .int .i64 root, prfV p a1 c1 a2 c2] (rngW w p a1 c1 a2 c2) fun e w' => e = .returned (.iface Te ev) ∧ Q w') :
    Calls Try.prog 17 #[.pointer (some ⟨b, 0, none⟩), .int .i64 root, .string fr, .string tk, prfV p a1 c1 a2 c2] w fun e w' => e = .returned (.tuple #[.slice none 0 0, .iface Te ev]) ∧ Q w' := by
  have HCH := Lib.hid HC
  have hb := rngW_box w p a1 c1 a2 c2
  have d0 : (rngW w p a1 c1 a2 c2).cell? ⟨w.heap.size, 0, none⟩ = some (.int .i64 p.many) := by rw [cell_of_row _ _ _ _ _ _ hb]; rfl
  have d1 : (rngW w p a1 c1 a2 c2).cell? ⟨w.heap.size, 1, none⟩ = some (.int .i64 p.first) := by rw [cell_of_row _ _ _ _ _ _ hb]; rfl
  have d2 : (rngW w p a1 c1 a2 c2).cell? ⟨w.heap.size, 2, none⟩ = some (.slice a1 p.L.length c1) := by rw [cell_of_row _ _ _ _ _ _ hb]; rfl
  have d3 : (rngW w p a1 c1 a2 c2).cell? ⟨w.heap.size, 3, none⟩ = some (.slice a2 p.B.length c2) := by rw [cell_of_row _ _ _ _ _ _ hb]; rfl
  obtain ⟨W, hW⟩ : ∃ W : World, W = rngW w p a1 c1 a2 c2 := ⟨_, rfl⟩
  have HW : Hid (w.alloc (.cells #[.int .i64 p.many, .int .i64 p.first, .slice a1 p.L.length c1, .slice a2 p.B.length c2] 25) = W) := hW.symm
  rw [← hW] at HCH d0 d1 d2 d3
  obtain ⟨pb, hpb⟩ : ∃ k, k = w.heap.size := ⟨_, rfl⟩
  have HPB := Lib.hid hpb.symm
  rw [← hpb] at d0 d1 d2 d3
  unfold prfV at HCH ⊢
  generalize p.L.length = ln at *
  generalize p.B.length = bn at *
  generalize p.many = pm at *
  generalize p.first = pf at *
  clear HC hb hW hpb
  go_enter Try.func17, Try.ntmps17
  go_upto_region 1 with fail
  rw [HW.out, HPB.out]
  go_wp2_with fail
  refine HCH.out.mono ?_
  rintro e w1 ⟨rfl, hq⟩
  have HQ := Lib.hid hq
  clear hq
  go_wp2_with fail
  go_ret2
  exact ⟨rfl, HQ.out⟩
/-- Range of a proof whose shape is right -/
def RngT (w : World) (bB b m : Nat) (T : List ByteArray) (root : Int) (p : Prf) (n f : Nat) (fr tk : ByteArray) (e : Ending) (w' : World) : Prop :=
  ∃ v' T' t d, BkT w' bB b m v' T' ∧ Ext T T' ∧ Told T' p n f t d ∧ T'.length ≤ T.length + (2 * n + 1) ∧ Fx bB w w' ∧
    (((d : Nat) : Int) ≠ root ∧ e = .returned (.tuple #[.slice none 0 0, wrongV 61]) ∨ ((d : Nat) : Int) = root ∧
      (((lowR p.L f fr && highR p.L n f tk) = false ∧ e = .returned (.tuple #[.slice none 0 0, wrongV 62])) ∨
        ((lowR p.L f fr && highR p.L n f tk) = true ∧ ∃ a cap, e = .returned (.tuple #[.slice a (p.L.filter fun x => inB fr tk x.key).length cap, .nilIface]) ∧ LiesAt w' a 3 entL (p.L.filter fun x => inB fr tk x.key))))
theorem range_shaped (bB b m : Nat) (v : Value) (T : List ByteArray) (root : Int) (fr tk : ByteArray) (p : Prf) (n f : Nat) (a1 a2 : Option Addr) (c1 c2 : Nat) (w : World) (hbk : BkT w bB b m v T) (h : PrfAt w bB p a1 a2) (hc : p.B.length ≤ c2) (hs : Shaped p n f) (hT : T.length ≤ 50000) :
    Calls Try.prog 17 #[.pointer (some ⟨b, 0, none⟩), .int .i64 root, .string fr, .string tk, prfV p a1 c1 a2 c2] w (RngT w bB b m T root p n f fr tk) := by
  have hbw := rngW_below w p a1 c1 a2 c2
  have hch := chk_yes bB b m v T root p n f a1 a2 c1 c2 (rngW w p a1 c1 a2 c2) (hbk.below hbw) (h.keep (Fx.of_below hbw hbk.le)) hc hs hT
  have hbox := rngW_box w p a1 c1 a2 c2
  let Q : World → Prop := fun w1 => ∃ v' T' t d, ((d : Nat) : Int) = root ∧ BkT w1 bB b m v' T' ∧ Ext T T' ∧ Told T' p n f t d ∧ T'.length ≤ T.length + (2 * n + 1) ∧ Fx bB (rngW w p a1 c1 a2 c2) w1
  let Q2 : World → Prop := fun w1 => ∃ v' T' t d, ((d : Nat) : Int) ≠ root ∧ BkT w1 bB b m v' T' ∧ Ext T T' ∧ Told T' p n f t d ∧ T'.length ≤ T.length + (2 * n + 1) ∧ Fx bB (rngW w p a1 c1 a2 c2) w1
  have hall := range_any b root fr tk p n f a1 a2 c1 c2 w 80 (.agg #[.string merkW, .int .i64 0, .iface 56 (.int .i64 61)]) Q Q2 hs (hch.mono fun e w1 hq => by
    obtain ⟨v', T', t, d, h1, h2, h3, h4, h5, h6⟩ := hq
    by_cases hd : ((d : Nat) : Int) = root
    · rw [if_pos hd] at h1
      exact .inr ⟨h1, ⟨v', T', t, d, hd, h2, h3, h4, h5, h6⟩, h6.kept _ _ hbox rfl, ((h.keep (Fx.of_below hbw hbk.le)).keep h6).ents.lies⟩
    · rw [if_neg hd] at h1
      exact .inl ⟨h1, ⟨v', T', t, d, hd, h2, h3, h4, h5, h6⟩⟩)
  refine hall.mono fun e w2 hq => ?_
  rcases hq with ⟨w1, ⟨v', T', t, d, hd, q2, q3, q4, q5, q6⟩, hb1, hr⟩ | ⟨he, v', T', t, d, hd, q2, q3, q4, q5, q6⟩
  · exact ⟨v', T', t, d, q2.below hb1, q3, q4, q5, (Fx.of_below hbw hbk.le).trans (q6.trans (Fx.of_below hb1 q2.le)), .inr ⟨hd, hr⟩⟩
  · exact ⟨v', T', t, d, q2, q3, q4, q5, (Fx.of_below hbw hbk.le).trans q6, .inl ⟨hd, he⟩⟩
theorem range_unshaped (bB b m : Nat) (v : Value) (T : List ByteArray) (root : Int) (fr tk : ByteArray) (p : Prf) (a1 a2 : Option Addr) (c1 c2 : Nat) (w : World) (hbk : BkT w bB b m v T) (h : PrfAt w bB p a1 a2) (hno : ¬ ∃ n f, Shaped p n f) :
    Calls Try.prog 17 #[.pointer (some ⟨b, 0, none⟩), .int .i64 root, .string fr, .string tk, prfV p a1 c1 a2 c2] w fun e w' => e = .returned (.tuple #[.slice none 0 0, wrongV 62]) ∧ BkT w' bB b m v T ∧ Fx bB w w' := by
  have hbw := rngW_below w p a1 c1 a2 c2
  have hch := chk_no bB b root p a1 a2 c1 c2 (rngW w p a1 c1 a2 c2) (h.keep (Fx.of_below hbw hbk.le)) (Nat.le_trans hbk.le hbw.size) hno
  refine (range_err b root fr tk p a1 a2 c1 c2 w 80 (.agg #[.string merkW, .int .i64 0, .iface 56 (.int .i64 62)]) (fun w1 => Below (rngW w p a1 c1 a2 c2).heap.size (rngW w p a1 c1 a2 c2) w1) hch).mono ?_
  rintro e w2 ⟨rfl, hb1⟩
  have hb : Below w.heap.size w w2 := hbw.trans (hb1.mono hbw.size)
  exact ⟨rfl, hbk.below hb, Fx.of_below hb hbk.le⟩
theorem geB_mono {tk x y : ByteArray} (h : lessK x y = true) (hx : geB tk x = true) : geB tk y = true := by
  unfold geB at hx ⊢
  simp only [Bool.and_eq_true, Bool.not_eq_true'] at hx ⊢
  refine ⟨hx.1, ?_⟩
  cases h2 : lessK y tk with
  | false => rfl
  | true => rw [lessK_trans h h2] at hx; exact hx.2.symm ▸ rfl
theorem filter_none {L : List Ent} {g : Ent → Bool} (h : ∀ (i : Nat) x, L[i]? = some x → g x = false) : L.filter g = [] := by
  apply List.filter_eq_nil_iff.2
  intro x hx
  obtain ⟨i, hi⟩ := List.getElem?_of_mem hx
  simp [h i x hi]
/-- P6.4: what a part tells of a range is all of it -/
theorem range_plain {l L : List Ent} {f : Nat} {fr tk : ByteArray} (hr : rightB l = true) (e : L = (l.drop f).take L.length) (hf : f + L.length ≤ l.length) (hl : lowR L f fr = true) (hh : highR L l.length f tk = true) :
    (L.filter fun x => inB fr tk x.key) = l.filter fun x => inB fr tk x.key := by
  have e3 : l = l.take f ++ (L ++ (l.drop f).drop L.length) := by
    conv => rhs; rhs; lhs; rw [e]
    rw [List.take_append_drop, List.take_append_drop]
  have h1 : (l.take f).filter (fun x => inB fr tk x.key) = [] := by
    apply filter_none
    intro i x hx
    have hi : i < f := by
      have := (List.getElem?_eq_some_iff.1 hx).1
      rw [List.length_take] at this
      omega
    rw [List.getElem?_take, if_pos hi] at hx
    unfold lowR at hl
    simp only [Bool.or_eq_true, decide_eq_true_eq, List.any_eq_true] at hl
    rcases hl with h0 | ⟨y, hy, hk⟩
    · omega
    · obtain ⟨j, hj, hyj⟩ := part_mem e hy
      have h3 := rise hr (f + j) i x y (by omega) hx hyj
      unfold inB
      rw [lessK_trans h3 hk]
      rfl
  have h2 : ((l.drop f).drop L.length).filter (fun x => inB fr tk x.key) = [] := by
    apply filter_none
    intro i x hx
    rw [List.getElem?_drop, List.getElem?_drop] at hx
    unfold highR at hh
    simp only [Bool.or_eq_true, decide_eq_true_eq, List.any_eq_true] at hh
    rcases hh with h0 | ⟨y, hy, hk⟩
    · have := (List.getElem?_eq_some_iff.1 hx).1
      omega
    · obtain ⟨j, hj, hyj⟩ := part_mem e hy
      have h3 := rise hr _ (f + j) y x (by omega) hyj hx
      unfold inB
      rw [geB_mono h3 hk]
      simp
  conv => rhs; rw [e3]
  rw [List.filter_append, List.filter_append, h1, h2, List.append_nil, List.nil_append]
/-- what Range tells of right entries -/
def RangeSays (l : List Ent) (fr tk : ByteArray) (e : Ending) (w : World) : Prop :=
  (∃ n, e = .returned (.tuple #[.slice none 0 0, wrongV n])) ∨
  ∃ a cap, e = .returned (.tuple #[.slice a (l.filter fun x => inB fr tk x.key).length cap, .nilIface]) ∧ LiesAt w a 3 entL (l.filter fun x => inB fr tk x.key)
theorem range_told (bB b m : Nat) (v : Value) (T : List ByteArray) (l : List Ent) (t d : Nat) (fr tk : ByteArray) (p : Prf) (a1 a2 : Option Addr) (c1 c2 : Nat) (w : World) (hbk : BkT w bB b m v T) (h : PrfAt w bB p a1 a2) (hc : p.B.length ≤ c2) (hT : T.length ≤ 50000) (hr : rightB l = true) (hw : Wide l) (ht : TopAt enc T l t) (hd : At T d (rootT l.length t)) :
    Calls Try.prog 17 #[.pointer (some ⟨b, 0, none⟩), .int .i64 (d : Int), .string fr, .string tk, prfV p a1 c1 a2 c2] w fun e w' => RangeSays l fr tk e w' ∧ ∃ v' T', BkT w' bB b m v' T' ∧ Ext T T' ∧ T'.length ≤ T.length + 2049 ∧ Fx bB w w' := by
  by_cases hs : ∃ n f, Shaped p n f
  · obtain ⟨n, f, hs⟩ := hs
    have hn0 := hs.small
    refine (range_shaped bB b m v T d fr tk p n f a1 a2 c1 c2 w hbk h hc hs hT).mono ?_
    rintro e w' ⟨v', T', t', d', q1, q2, q3, q4, q5, q6⟩
    refine ⟨?_, v', T', q1, q2, by omega, q5⟩
    rcases q6 with ⟨_, rfl⟩ | ⟨hdd, ⟨_, rfl⟩ | ⟨hlh, a, cap, rfl, hl⟩⟩
    · exact .inl ⟨61, rfl⟩
    · exact .inl ⟨62, rfl⟩
    · obtain rfl : d' = d := by omega
      obtain ⟨e1, e2, e3⟩ := told_sound (by omega) q3 h.wide (right_good hr hw) (by have := right_len hr; omega) (ht.ext q2) (q2 _ _ hd)
      rw [Bool.and_eq_true] at hlh
      rw [e1] at hlh
      rw [range_plain hr e2 e3 hlh.1 hlh.2] at hl ⊢
      exact .inr ⟨a, cap, rfl, hl⟩
  · refine (range_unshaped bB b m v T d fr tk p a1 a2 c1 c2 w hbk h hs).mono ?_
    rintro e w' ⟨rfl, q1, q⟩
    exact ⟨.inl ⟨62, rfl⟩, v, T, q1, Ext.refl _, by omega, q⟩
/-- Range of what Prove made of all -/
theorem range_all (bB b m : Nat) (v : Value) (T : List ByteArray) (l : List Ent) (t d : Nat) (ds : List Nat) (fr tk : ByteArray) (a1 a2 : Option Addr) (c1 c2 : Nat) (w : World) (hbk : BkT w bB b m v T) (h : PrfAt w bB (mkP l 0 l.length ds) a1 a2) (hc : ds.length ≤ c2) (hT : T.length ≤ 50000) (hr : rightB l = true) (hb : BesideAt enc T 0 (0 + l.length) 0 l ds) (ht : TopAt enc T l t) (hd : At T d (rootT l.length t)) :
    Calls Try.prog 17 #[.pointer (some ⟨b, 0, none⟩), .int .i64 (d : Int), .string fr, .string tk, prfV (mkP l 0 l.length ds) a1 c1 a2 c2] w fun e w' => (∃ a cap, e = .returned (.tuple #[.slice a (l.filter fun x => inB fr tk x.key).length cap, .nilIface]) ∧ LiesAt w' a 3 entL (l.filter fun x => inB fr tk x.key)) ∧ ∃ v' T', BkT w' bB b m v' T' ∧ Fx bB w w' := by
  have hL : (mkP l 0 l.length ds).L = l := by
    show (l.drop 0).take l.length = l
    simp
  refine (range_shaped bB b m v T d fr tk (mkP l 0 l.length ds) l.length 0 a1 a2 c1 c2 w hbk h (by show (ds.map _).length ≤ c2; rw [List.length_map]; exact hc) (mkP_shaped hr (by omega) hb) hT).mono ?_
  rintro e w' ⟨v', T', t', d', q1, q2, q3, q4, q5, q6⟩
  refine ⟨?_, v', T', q1, q5⟩
  have hdd : d' = d := made_root q1.nd (by omega) hb q2 q3 (ht.ext q2) (q2 _ _ hd)
  rw [hL] at q6
  have h1 : (lowR l 0 fr && highR l l.length 0 tk) = true := by
    unfold lowR highR
    simp
  rcases q6 with ⟨hne, _⟩ | ⟨_, ⟨h2, _⟩ | ⟨_, a, cap, rfl, hl⟩⟩
  · rw [hdd] at hne
    exact absurd rfl hne
  · rw [h1] at h2
    cases h2
  · exact ⟨a, cap, rfl, hl⟩
end Go.Proofs.Ytlepjjcnlcnnfaa.Merkle
