/- Merkle: MerkleHas. -/
import Derived.Test.YtlepjjcnlcnnfaaMkNo
namespace Go.Proofs.Ytlepjjcnlcnnfaa.Merkle
open Go.RowKit Go.My

theorem bl_alloc2 {w w6 : World} {o : Obj} (h : Below w.heap.size w w6) : Below w.heap.size w6 (w6.alloc o) := (bl_alloc w6 o).mono h.size
theorem has_unshaped (bB b m : Nat) (v : Value) (T : List ByteArray) (root : Int) (key : ByteArray) (p : Prf) (a1 a2 : Option Addr) (c1 c2 : Nat) (w : World) (hbk : BkT w bB b m v T) (h : PrfAt w bB p a1 a2) (hno : ¬ ∃ n f, Shaped p n f) :
    Calls Try.prog 16 #[.pointer (some ⟨b, 0, none⟩), .int .i64 root, .string key, prfV p a1 c1 a2 c2] w fun e w' => e = .returned (.tuple #[zeroE, .bool false, wrongV 62]) ∧ BkT w' bB b m v T ∧ Fx bB w w' := by
  have hbw := hasW_below w p a1 c1 a2 c2
  have hres := hasW_res w p a1 c1 a2 c2
  have hch := chk_no bB b root p a1 a2 c1 c2 (hasW w p a1 c1 a2 c2) (h.keep (Fx.of_below hbw hbk.le)) (Nat.le_trans hbk.le hbw.size) hno
  refine (has_err b root key p a1 a2 c1 c2 w 80 (.agg #[.string merkW, .int .i64 0, .iface 56 (.int .i64 62)]) (fun w1 => Below (hasW w p a1 c1 a2 c2).heap.size (hasW w p a1 c1 a2 c2) w1 ∧ w1.heap[w.heap.size + 1]? = some (.cells #[.string ⟨#[]⟩, .string ⟨#[]⟩, .int .i64 0] 42 (0, 0))) (hch.mono fun e w1 hq => ⟨hq.1, ⟨hq.2, box_kept hq.2 hres⟩, box_kept hq.2 hres⟩)).mono ?_
  rintro e w2 ⟨rfl, w1, ⟨hb1, hbx⟩, hw⟩
  have hb : Below w.heap.size w w1 := hbw.trans (hb1.mono hbw.size)
  refine ⟨rfl, bkt_wrote (hbk.below hb) hw hbx rfl, ?_⟩
  have hb2 : Below w.heap.size w w2 := hb.trans (hw.below hb.size fun k hk => by have e : k = w.heap.size + 1 := (by simpa using hk); rw [e]; exact Nat.le_succ _)
  exact Fx.of_below hb2 hbk.le
/-- Has for a root that is none: an error -/
theorem has_bad (bB b m : Nat) (v : Value) (T : List ByteArray) (key : ByteArray) (p : Prf) (a1 a2 : Option Addr) (c1 c2 : Nat) (w : World) (hbk : BkT w bB b m v T) (h : PrfAt w bB p a1 a2) (hc : p.B.length ≤ c2) (hT : T.length ≤ 50000) :
    Calls Try.prog 16 #[.pointer (some ⟨b, 0, none⟩), .int .i64 (-1), .string key, prfV p a1 c1 a2 c2] w fun e w' => ∃ n, e = .returned (.tuple #[zeroE, .bool false, wrongV n]) ∧ Fx bB w w' := by
  by_cases hs : ∃ n f, Shaped p n f
  · obtain ⟨n, f, hs⟩ := hs
    refine (has_shaped bB b m v T (-1) key p n f a1 a2 c1 c2 w hbk h hc hs hT).mono ?_
    rintro e w' ⟨v', T', t, d, rfl, q1, q2, q3, q4, q5⟩
    rw [if_neg (by omega)]
    exact ⟨61, rfl, q5⟩
  · refine (has_unshaped bB b m v T (-1) key p a1 a2 c1 c2 w hbk h hs).mono ?_
    rintro e w' ⟨rfl, _, q⟩
    exact ⟨62, rfl, q⟩
theorem rise {l : List Ent} (h : rightB l = true) : ∀ (j i : Nat) (x y : Ent), i < j → l[i]? = some x → l[j]? = some y → lessK x.key y.key = true := by
  intro j
  induction j with
  | zero => intro i x y h0; omega
  | succ j ih =>
    intro i x y hij hx hy
    have hj : j + 1 < l.length := (List.getElem?_eq_some_iff.1 hy).1
    obtain ⟨u, hu⟩ : ∃ u, l[j]? = some u := ⟨_, List.getElem?_eq_getElem (by omega)⟩
    have h0 := right_all h (j + 1) hj
    unfold okB at h0
    rw [hy] at h0
    simp only [Nat.add_sub_cancel, hu, Bool.and_eq_true, Bool.or_eq_true, decide_eq_true_eq] at h0
    have h1 : lessK u.key y.key = true := by
      rcases h0.2.2 with h | h
      · omega
      · exact h
    rcases Nat.lt_or_ge i j with h2 | h2
    · exact lessK_trans (ih i x u h2 hx hu) h1
    · obtain rfl : i = j := by omega
      rw [hu] at hx
      cases hx
      exact h1
theorem one_key {l : List Ent} (h : rightB l = true) {i j : Nat} {x y : Ent} (hx : l[i]? = some x) (hy : l[j]? = some y) (e : x.key = y.key) : x = y := by
  rcases Nat.lt_trichotomy i j with h1 | h1 | h1
  · have := rise h j i x y h1 hx hy
    rw [e, lessK_irr] at this
    cases this
  · subst h1
    rw [hx] at hy
    cases hy
    rfl
  · have := rise h i j y x h1 hy hx
    rw [e, lessK_irr] at this
    cases this
theorem part_at {l L : List Ent} {f : Nat} (e : L = (l.drop f).take L.length) {i : Nat} (hi : i < L.length) : L[i]? = l[f + i]? := by
  have e2 : L[i]? = ((l.drop f).take L.length)[i]? := congrArg (fun q => q[i]?) e
  rw [e2, List.getElem?_take, if_pos hi, List.getElem?_drop]
theorem part_mem {l L : List Ent} {f : Nat} (e : L = (l.drop f).take L.length) {x : Ent} (hx : x ∈ L) : ∃ i, i < L.length ∧ l[f + i]? = some x := by
  obtain ⟨i, hi⟩ := List.getElem?_of_mem hx
  have h := (List.getElem?_eq_some_iff.1 hi).1
  exact ⟨i, h, by rw [← part_at e h]; exact hi⟩
/-- P6.2: an entry that is not told is none of them -/
theorem none_plain {l L : List Ent} {f n : Nat} {key : ByteArray} (hr : rightB l = true) (hn : n = l.length) (e : L = (l.drop f).take L.length) (h0 : (L.find? fun x => decide (x.key = key)) = none) (hl : lowH L n f key = true) (hh : highH L n f key = true) :
    ∀ (i : Nat) y, l[i]? = some y → y.key ≠ key := by
  intro i y hy hk
  have hi : i < l.length := (List.getElem?_eq_some_iff.1 hy).1
  by_cases hz : L.length = 0
  · unfold lowH at hl
    rw [if_pos hz] at hl
    simp at hl
    omega
  · unfold lowH at hl
    rw [if_neg hz] at hl
    simp only [Bool.or_eq_true, decide_eq_true_eq, List.any_eq_true] at hl
    unfold highH at hh
    simp only [Bool.or_eq_true, decide_eq_true_eq, List.any_eq_true] at hh
    rcases Nat.lt_or_ge i f with h1 | h1
    · rcases hl with h2 | ⟨x, hx, h2⟩
      · omega
      · obtain ⟨j, hj, hxj⟩ := part_mem e hx
        have h3 := rise hr (f + j) i y x (by omega) hy hxj
        rw [hk] at h3
        have h4 := lessK_trans h2 h3
        rw [lessK_irr] at h4
        cases h4
    · rcases Nat.lt_or_ge i (f + L.length) with h2 | h2
      · have h3 : L[i - f]? = some y := by
          rw [part_at e (by omega), show f + (i - f) = i by omega]
          exact hy
        have h4 := List.find?_eq_none.1 h0 y (List.mem_of_getElem? h3)
        simp [hk] at h4
      · rcases hh with h3 | ⟨x, hx, h3⟩
        · omega
        · obtain ⟨j, hj, hxj⟩ := part_mem e hx
          have h4 := rise hr i (f + j) x y (by omega) hxj hy
          rw [hk] at h4
          rw [h4] at h3
          cases h3
/-- what Has tells of right entries -/
def HasSays (l : List Ent) (key : ByteArray) (e : Ending) : Prop :=
  (∃ n, e = .returned (.tuple #[zeroE, .bool false, wrongV n])) ∨
  ∃ xk xv xn is, e = .returned (.tuple #[.agg #[.string xk, .string xv, .int .i64 xn], .bool is, .nilIface]) ∧ (∀ (i : Nat) y, l[i]? = some y → y.key = key → is = true ∧ y = ⟨xk, xv, xn⟩) ∧ (is = true → ∃ y ∈ l, y.key = key)
theorem has_says {l L : List Ent} {f n : Nat} {key : ByteArray} (hr : rightB l = true) (hn : n = l.length) (e : L = (l.drop f).take L.length) : HasSays l key (.returned (hasV L n f key)) := by
  unfold hasV
  cases h0 : L.find? fun x => decide (x.key = key) with
  | some x =>
    have hk : x.key = key := by simpa using List.find?_some h0
    obtain ⟨j, hj, hx⟩ := part_mem e (List.mem_of_find?_eq_some h0)
    exact .inr ⟨x.key, x.value, x.ver, true, rfl, fun i y hy hyk => ⟨rfl, one_key hr hy hx (by rw [hyk, hk])⟩, fun _ => ⟨x, List.mem_of_getElem? hx, hk⟩⟩
  | none =>
    simp only
    by_cases hc : (lowH L n f key && highH L n f key) = true
    · rw [if_pos hc]
      rw [Bool.and_eq_true] at hc
      exact .inr ⟨⟨#[]⟩, ⟨#[]⟩, 0, false, rfl, fun i y hy hyk => absurd hyk (none_plain hr hn e h0 hc.1 hc.2 i y hy), fun h => by cases h⟩
    · rw [if_neg hc]
      exact .inl ⟨62, rfl⟩
theorem has_told (bB b m : Nat) (v : Value) (T : List ByteArray) (l : List Ent) (t d : Nat) (key : ByteArray) (p : Prf) (a1 a2 : Option Addr) (c1 c2 : Nat) (w : World) (hbk : BkT w bB b m v T) (h : PrfAt w bB p a1 a2) (hc : p.B.length ≤ c2) (hT : T.length ≤ 50000) (hr : rightB l = true) (hw : Wide l) (ht : TopAt enc T l t) (hd : At T d (rootT l.length t)) :
    Calls Try.prog 16 #[.pointer (some ⟨b, 0, none⟩), .int .i64 (d : Int), .string key, prfV p a1 c1 a2 c2] w fun e w' => HasSays l key e ∧ ∃ v' T', BkT w' bB b m v' T' ∧ Fx bB w w' := by
  by_cases hs : ∃ n f, Shaped p n f
  · obtain ⟨n, f, hs⟩ := hs
    refine (has_shaped bB b m v T d key p n f a1 a2 c1 c2 w hbk h hc hs hT).mono ?_
    rintro e w' ⟨v', T', t', d', rfl, q1, q2, q3, q4, q5⟩
    refine ⟨?_, v', T', q1, q5⟩
    by_cases hdd : (d' : Int) = (d : Int)
    · rw [if_pos hdd]
      obtain rfl : d' = d := by omega
      have hn0 := hs.small
      obtain ⟨e1, e2, e3⟩ := told_sound (by omega) q3 h.wide (right_good hr hw) (by have := right_len hr; omega) (ht.ext q2) (q2 _ _ hd)
      exact has_says hr e1 e2
    · rw [if_neg hdd]
      exact .inl ⟨61, rfl⟩
  · refine (has_unshaped bB b m v T d key p a1 a2 c1 c2 w hbk h hs).mono ?_
    rintro e w' ⟨rfl, q1, q⟩
    exact ⟨.inl ⟨62, rfl⟩, v, T, q1, q⟩
set_option maxRecDepth 100000 in
set_option maxHeartbeats 3200000 in
theorem haslaw_any (a : Option Addr) (cap : Nat) (l : List Ent) (key : ByteArray) (p : Prf) (a1 a2 : Option Addr) (c1 c2 : Nat) (w : World) (hl : LIn w a l) (hc : l.length ≤ cap) (hc9 : cap ≤ maxLen) (hp : PIn w p a1 a2 c2) :
    Calls Try.prog 5 #[.slice a l.length cap, .string key, prfV p a1 c1 a2 c2] w fun e w' => e = .returned (.bool true) ∧ Below w.heap.size w w' := by
  obtain ⟨W, hW⟩ : ∃ W : World, W = w.alloc (.cells #[.int .i64 p.many, .int .i64 p.first, .slice a1 p.L.length c1, .slice a2 p.B.length c2] 25) := ⟨_, rfl⟩
  obtain ⟨q, hq⟩ : ∃ q, q = w.heap.size := ⟨_, rfl⟩
  have hbw : Below w.heap.size w W := by rw [hW]; exact (Below.refl _ _).alloc (Nat.le_refl _) _
  have hbx : W.heap[q]? = some (boxC p a1 c1 a2 c2) := by rw [hW, hq]; exact heap_alloc_new w _
  have HW : Hid (w.alloc (.cells #[.int .i64 p.many, .int .i64 p.first, .slice a1 p.L.length c1, .slice a2 p.B.length c2] 25) = W ∧ w.heap.size = q) := ⟨hW.symm, hq.symm⟩
  have HIN := Lib.hid (And.intro hl (And.intro hp (And.intro hbw hbx)))
  have HV : Hid (prfV p a1 c1 a2 c2 = .agg #[.int .i64 p.many, .int .i64 p.first, .slice a1 p.L.length c1, .slice a2 p.B.length c2]) := rfl
  have HCAP := Lib.hid hc
  obtain ⟨n, hn⟩ : ∃ n, n = l.length := ⟨_, rfl⟩
  have HN := Lib.hid hn
  unfold prfV
  rw [← hn]
  rw [← hn] at hc
  unfold maxLen at hc9
  have i0 : (n : Int) ≤ (cap : Int) := by omega
  have i9 : (cap : Int) ≤ 9223372036854775807 := by omega
  clear hW hq hbw hbx hl hp hn
  go_enter Try.func5, Try.ntmps5
  go_upto_region 1 with fail
  rw [HW.out.1, HW.out.2]
  go_wp2_with fail
  refine (head_any W).mono ?_
  rintro e w1 ⟨rfl, hb1⟩
  have HB1 := Lib.hid hb1
  clear hb1
  go_wp2_with fail
  refine (Book.new_any w1).mono ?_
  rintro e w2 ⟨b, m, v, rfl, hs2, hb2⟩
  have hB : w.heap.size ≤ w1.heap.size := Nat.le_trans HIN.out.2.2.1.size HB1.out.size
  have hb02 : Below w.heap.size w w2 := (HIN.out.2.2.1.trans (HB1.out.mono HIN.out.2.2.1.size)).trans (hb2.mono hB)
  have H2 : Hid (LawAt w w2 w1.heap.size b m v [] a l ∧ w2.heap[q]? = some (boxC p a1 c1 a2 c2)) := ⟨⟨⟨hs2, List.nodup_nil⟩, HIN.out.1.ents hB hb02, hB, hb02⟩, box_kept hb2 (box_kept HB1.out HIN.out.2.2.2)⟩
  clear hs2 hb2 hb02 hB
  go_wp2_with fail
  have hg := great_any a l cap w2 H2.out.1.ents.lies HIN.out.1.most
  rw [← HN.out] at hg
  refine hg.mono ?_
  rintro e w3 ⟨g, rfl, hg, hb3⟩
  have H3 : Hid (LawAt w w3 w1.heap.size b m v [] a l ∧ w3.heap[q]? = some (boxC p a1 c1 a2 c2)) := ⟨H2.out.1.low hb3, box_kept hb3 H2.out.2⟩
  have HG3 := Lib.hid hg
  clear hg hb3
  cases g with
  | true =>
    go_wp2_with fail
    go_ret
    exact ⟨rfl, H3.out.1.below⟩
  | false =>
    obtain ⟨z0, z1, z2, z3⟩ := boxC_cell H3.out.2
    go_wp2_with fail
    have hg := greatP_any p a1 c1 a2 c2 w3 (HIN.out.2.1.ents.lies.below H3.out.1.below) HIN.out.2.1.ents.most (Nat.le_trans HIN.out.2.1.cap HIN.out.2.1.most)
    rw [HV.out] at hg
    refine hg.mono ?_
    rintro e w4 ⟨g, rfl, hg, hb4⟩
    have H4 : Hid (LawAt w w4 w1.heap.size b m v [] a l ∧ w4.heap[q]? = some (boxC p a1 c1 a2 c2)) := ⟨H3.out.1.low hb4, box_kept hb4 H3.out.2⟩
    have HG4 := Lib.hid hg
    clear hg hb4 z0 z1 z2 z3
    cases g with
    | true =>
      go_wp2_with fail
      go_ret
      exact ⟨rfl, H4.out.1.below⟩
    | false =>
      go_wp2_with fail
      cases hr : rightB l with
      | false =>
        have HR := root_no b a cap l w4 H4.out.1.ents.lies (by have := (HG3.out (by trivial)).1; omega) (HIN.out.1.wide (HG3.out (by trivial)).2) hr
        rw [← HN.out] at HR
        refine HR.mono ?_
        rintro e w5 ⟨rfl, hb5⟩
        have H5 : Hid (LawAt w w5 w1.heap.size b m v [] a l ∧ w5.heap[q]? = some (boxC p a1 c1 a2 c2)) := ⟨H4.out.1.low hb5, box_kept hb5 H4.out.2⟩
        clear hb5 hr HR
        obtain ⟨z0, z1, z2, z3⟩ := boxC_cell H5.out.2
        have hp5 : PrfAt w5 w1.heap.size p a1 a2 := HIN.out.2.1.prf H5.out.1.ge H5.out.1.below (HG4.out (by trivial))
        have HH := has_bad w1.heap.size b m v [] key p a1 a2 c1 c2 w5 H5.out.1.bk hp5 HIN.out.2.1.cap (by simp)
        rw [HV.out] at HH
        have HHH := Lib.hid HH
        clear HH hp5
        unfold wrongV
        go_wp2_with fail
        refine HHH.out.mono ?_
        rintro e w6 ⟨ev, rfl, hf6⟩
        have H6 : Hid (Below w.heap.size w w6) := H5.out.1.below.trans (hf6.below.mono H5.out.1.ge)
        clear hf6 z0 z1 z2 z3
        unfold zeroE wrongV
        go_wp2_with fail
        go_ret
        exact ⟨rfl, H6.out.trans (bl_alloc2 H6.out)⟩
      | true =>
        have HR := root_yes w1.heap.size b m v [] a cap l w4 H4.out.1.bk H4.out.1.ents (HIN.out.1.wide (HG3.out (by trivial)).2) hr (by simp)
        rw [← HN.out] at HR
        refine HR.mono ?_
        rintro e w5 ⟨v5, T5, d, t, rfl, h5, -, ht, hr5, hl5, hf5⟩
        have hlen := right_len hr
        have hT5 : T5.length ≤ 3000 := by simp at hl5; omega
        have H5 : Hid (LawAt w w5 w1.heap.size b m v5 T5 a l ∧ w5.heap[q]? = some (boxC p a1 c1 a2 c2) ∧ TopAt enc T5 l t ∧ At T5 d (rootT l.length t)) := ⟨H4.out.1.next h5 hf5, hf5.kept _ _ H4.out.2 rfl, ht, hr5⟩
        clear h5 ht hr5 hl5 hf5 HR hlen
        have HRI := Lib.hid hr
        clear hr
        obtain ⟨z0, z1, z2, z3⟩ := boxC_cell H5.out.2.1
        have hp5 : PrfAt w5 w1.heap.size p a1 a2 := HIN.out.2.1.prf H5.out.1.ge H5.out.1.below (HG4.out (by trivial))
        have HH := has_told w1.heap.size b m v5 T5 l t d key p a1 a2 c1 c2 w5 H5.out.1.bk hp5 HIN.out.2.1.cap (by omega) HRI.out (HIN.out.1.wide (HG3.out (by trivial)).2) H5.out.2.2.1 H5.out.2.2.2
        rw [HV.out] at HH
        have HHH := Lib.hid HH
        clear HH hp5
        go_wp2_with fail
        refine HHH.out.mono ?_
        rintro e w6 ⟨hr6, v6, T6, h6, hf6⟩
        have H6 : Hid (LawAt w w6 w1.heap.size b m v6 T6 a l) := H5.out.1.next h6 hf6
        clear h6 hf6 z0 z1 z2 z3
        rcases hr6 with ⟨ne, rfl⟩ | ⟨xk, xv, xn, is, rfl, hu, he⟩
        · unfold zeroE wrongV
          go_wp2_with fail
          go_ret
          exact ⟨rfl, H6.out.below.trans (bl_alloc2 H6.out.below)⟩
        · have HU := Lib.hid hu
          have HE := Lib.hid he
          clear hu he
          obtain ⟨xb, hxb⟩ : ∃ xb, xb = w6.heap.size := ⟨_, rfl⟩
          obtain ⟨W7, hW7⟩ : ∃ W7 : World, W7 = w6.alloc (.cells #[.string xk, .string xv, .int .i64 xn] 42) := ⟨_, rfl⟩
          have H7 : Hid (LawAt w W7 w1.heap.size b m v6 T6 a l ∧ W7.heap[xb]? = some (.cells #[.string xk, .string xv, .int .i64 xn] 42 (0, 0))) := by
            rw [hW7, hxb]
            exact ⟨H6.out.low (bl_alloc _ _), heap_alloc_new w6 _⟩
          have HW7 := Lib.hid hW7.symm
          have HXB := Lib.hid hxb.symm
          clear hW7 hxb
          go_upto_region 7 with fail
          rw [HW7.out, HXB.out]
          have P0 : Hid (false = ((l.take 0).any fun y => decide (y.key = key)) ∧ Below W7.heap.size W7 W7) := ⟨rfl, Below.refl _ _⟩
          go_wp2_with fail
          go_loopw [14, 15] (fun u i wr => ∃ (j : Nat) (x : Bool), j ≤ n ∧ i = .int .i64 j ∧ u = .bool x ∧ Hid (x = ((l.take j).any fun y => decide (y.key = key)) ∧ Below W7.heap.size W7 wr)) (fun _ i _ => n - (intOf i).toNat)
          case atStart => exact ⟨0, false, by omega, rfl, rfl, P0⟩
          case round =>
            clear P0
            obtain ⟨j, x, hj, rfl, rfl, HJ⟩ := hrel
            by_cases hlt : j < n
            · obtain ⟨⟨yk, yu, yn⟩, hy⟩ : ∃ y, l[j]? = some y := ⟨_, List.getElem?_eq_getElem (by rw [← HN.out]; exact hlt)⟩
              obtain ⟨g, o, rfl, lg, hcl⟩ := (H7.out.1.ents.lies.below HJ.out.2) j _ hy
              have k0 := hcl 0 _ rfl
              have k1 := hcl 1 _ rfl
              have k2 := hcl 2 _ rfl
              simp only [Nat.add_zero] at k0 k1 k2
              have hj0 : (0 : Int) ≤ (j : Int) := by omega
              have hj1 : (j : Int) < (n : Int) := by omega
              have HND : Hid (∀ nq, Below W7.heap.size W7 (wr.drewN nq)) := fun nq => HJ.out.2.trans ⟨rfl, rfl, rfl, by simp, fun _ _ => rfl⟩
              by_cases hk : yk = key
              · obtain ⟨his, hyx⟩ := HU.out j _ hy hk
                cases hyx
                have hkk : (xk.toList == key.toList) = true := by rw [hk]; simp
                have hbx := box_kept HJ.out.2 H7.out.2
                have e0 : wr.cell? ⟨xb, 0, none⟩ = some (.string xk) := by rw [cell_of_row _ _ _ _ _ _ hbx]; rfl
                have e1 : wr.cell? ⟨xb, 1, none⟩ = some (.string xv) := by rw [cell_of_row _ _ _ _ _ _ hbx]; rfl
                have e2 : wr.cell? ⟨xb, 2, none⟩ = some (.int .i64 xn) := by rw [cell_of_row _ _ _ _ _ _ hbx]; rfl
                have HNX : Hid (true = ((l.take (j + 1)).any fun y => decide (y.key = key))) := by
                  show _ = _
                  rw [take_any hy]
                  simp [hk]
                clear hy hcl lg hk his hbx
                go_wp2_with fail
                go_quiet (fail)
                go_wp2_with fail
                exact ⟨⟨j + 1, true, by omega, by simp, rfl, HNX.out, HND.out _⟩, by simp [intOf]; omega⟩
              · have hkk : (yk.toList == key.toList) = false := key_ne hk
                have HNX : Hid (x = ((l.take (j + 1)).any fun y => decide (y.key = key))) := by
                  show _ = _
                  rw [take_any hy, ← HJ.out.1]
                  simp [hk]
                clear hy hcl lg hk
                go_wp2_with fail
                exact ⟨⟨j + 1, x, by omega, by simp, rfl, HNX.out, HJ.out.2⟩, by simp [intOf]; omega⟩
            · obtain rfl : j = n := by omega
              have hx : x = is := by
                have h1 := HJ.out.1
                rw [HN.out, List.take_length] at h1
                cases is with
                | true =>
                  obtain ⟨y, hy, hyk⟩ := HE.out rfl
                  rw [h1]
                  exact List.any_eq_true.2 ⟨y, hy, by simp [hyk]⟩
                | false =>
                  cases hx : x with
                  | false => rfl
                  | true =>
                    rw [hx] at h1
                    obtain ⟨y, hy, hyk⟩ := List.any_eq_true.1 h1.symm
                    obtain ⟨i, hi⟩ := List.getElem?_of_mem hy
                    exact absurd (HU.out i y hi (by simpa using hyk)).1 (by simp)
              subst hx
              have HD := Lib.hid (H7.out.1.below.trans (HJ.out.2.mono H7.out.1.below.size))
              clear hlt
              go_wp2_with fail
              go_ret
              exact ⟨by simp, HD.out⟩
end Go.Proofs.Ytlepjjcnlcnnfaa.Merkle
