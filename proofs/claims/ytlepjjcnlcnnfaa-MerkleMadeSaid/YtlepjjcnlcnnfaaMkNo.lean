/- Merkle: the laws' given values, and MerkleNothing. -/
import Derived.Test.YtlepjjcnlcnnfaaMkHd
namespace Go.Proofs.Ytlepjjcnlcnnfaa.Merkle
open Go.RowKit Go.My

structure LIn (w : World) (a : Option Addr) (l : List Ent) : Prop where
  lies : LiesAt w a 3 entL l
  most : l.length ≤ maxLen
  ver : ∀ x ∈ l, -9223372036854775808 ≤ x.ver ∧ x.ver ≤ 9223372036854775807
structure PIn (w : World) (p : Prf) (a1 a2 : Option Addr) (c2 : Nat) : Prop where
  ents : LIn w a1 p.L
  nums : LiesAt w a2 1 nums p.B
  cap : p.B.length ≤ c2
  most : c2 ≤ maxLen
  i64 : ∀ z ∈ p.B, z ≤ 9223372036854775807
section
variable {w w' : World} {a a1 a2 : Option Addr} {l : List Ent} {p : Prf} {bB c2 : Nat}
theorem LIn.below (h : LIn w a l) (hb : Below w.heap.size w w') : LIn w' a l := ⟨h.lies.below hb, h.most, h.ver⟩
theorem LIn.ents (h : LIn w a l) (hB : w.heap.size ≤ bB) (hb : Below w.heap.size w w') : EntsAt w' bB a l := by
  refine ⟨h.lies.below hb, fun g o e hne => ?_⟩
  obtain ⟨x, hx⟩ : ∃ x, l[0]? = some x := by cases l with
    | nil => exact absurd rfl hne
    | cons x l => exact ⟨x, rfl⟩
  obtain ⟨g', o', e', hg, -⟩ := h.lies 0 x hx
  rw [e'] at e
  cases e
  exact ⟨Nat.lt_of_lt_of_le hg hb.size, .inl (by omega)⟩
theorem LIn.wide (h : LIn w a l) (hg : ∀ x ∈ l, x.key.size < 60000 ∧ x.value.size < 60000) : Wide l := fun x hx => ⟨⟨by have := (hg x hx).1; omega, by have := (hg x hx).2; omega⟩, h.ver x hx⟩
theorem PIn.below (h : PIn w p a1 a2 c2) (hb : Below w.heap.size w w') : PIn w' p a1 a2 c2 := ⟨h.ents.below hb, h.nums.below hb, h.cap, h.most, h.i64⟩
theorem PIn.prf (h : PIn w p a1 a2 c2) (hB : w.heap.size ≤ bB) (hb : Below w.heap.size w w') (hg : (p.L.length ≤ 6000 ∧ ∀ x ∈ p.L, x.key.size < 60000 ∧ x.value.size < 60000) ∧ p.B.length ≤ 3000) : PrfAt w' bB p a1 a2 := by
  refine ⟨h.ents.ents hB hb, h.nums.below hb, fun g o e hne => ?_, h.ents.wide hg.1.2, hg.1.1, by omega, h.i64⟩
  obtain ⟨x, hx⟩ : ∃ x, p.B[0]? = some x := by
    cases hB : p.B with
    | nil => exact absurd hB hne
    | cons x l => exact ⟨x, rfl⟩
  obtain ⟨g', o', e', hg, -⟩ := h.nums 0 x hx
  rw [e'] at e
  cases e
  exact ⟨Nat.lt_of_lt_of_le hg hb.size, .inl (by omega)⟩
end
def boxC (p : Prf) (a1 : Option Addr) (c1 : Nat) (a2 : Option Addr) (c2 : Nat) : Obj := .cells #[.int .i64 p.many, .int .i64 p.first, .slice a1 p.L.length c1, .slice a2 p.B.length c2] 25 (0, 0)
theorem boxC_cell {w : World} {q : Nat} {p : Prf} {a1 : Option Addr} {c1 : Nat} {a2 : Option Addr} {c2 : Nat} (h : w.heap[q]? = some (boxC p a1 c1 a2 c2)) : w.cell? ⟨q, 0, none⟩ = some (.int .i64 p.many) ∧ w.cell? ⟨q, 1, none⟩ = some (.int .i64 p.first) ∧ w.cell? ⟨q, 2, none⟩ = some (.slice a1 p.L.length c1) ∧ w.cell? ⟨q, 3, none⟩ = some (.slice a2 p.B.length c2) := by
  unfold boxC at h
  exact ⟨by rw [cell_of_row _ _ _ _ _ _ h]; rfl, by rw [cell_of_row _ _ _ _ _ _ h]; rfl, by rw [cell_of_row _ _ _ _ _ _ h]; rfl, by rw [cell_of_row _ _ _ _ _ _ h]; rfl⟩
/-- a law's book, the live question behind it: what came in lies ahead of it -/
structure LawAt (w : World) (W : World) (bB b m : Nat) (v : Value) (T : List ByteArray) (a : Option Addr) (l : List Ent) : Prop where
  bk : BkT W bB b m v T
  ents : EntsAt W bB a l
  ge : w.heap.size ≤ bB
  below : Below w.heap.size w W
theorem LawAt.next {w W W' : World} {bB b m : Nat} {v v' : Value} {T T' : List ByteArray} {a : Option Addr} {l : List Ent} (h : LawAt w W bB b m v T a l) (hb : BkT W' bB b m v' T') (hf : Fx bB W W') : LawAt w W' bB b m v' T' a l :=
  ⟨hb, h.ents.keep hf, h.ge, h.below.trans (hf.below.mono h.ge)⟩
theorem LawAt.low {w W W' : World} {bB b m : Nat} {v : Value} {T : List ByteArray} {a : Option Addr} {l : List Ent} (h : LawAt w W bB b m v T a l) (hf : Below W.heap.size W W') : LawAt w W' bB b m v T a l :=
  h.next (h.bk.below hf) (Fx.of_below hf h.bk.le)
theorem part_lies {w : World} {a : Option Addr} {l L : List Ent} {f cap : Nat} (h : LiesAt w a 3 entL l) (e : L = (l.drop f).take L.length) (hf : f + L.length ≤ l.length) (hc : l.length ≤ cap) : LiesAt w (if cap = f then a else Option.map (fun x => x.add (f * 3)) a) 3 entL L := by
  intro i x hi
  have hlt := (List.getElem?_eq_some_iff.1 hi).1
  have hx : l[f + i]? = some x := by
    have e2 : L[i]? = ((l.drop f).take L.length)[i]? := congrArg (fun q => q[i]?) e
    rw [e2, List.getElem?_take, if_pos hlt, List.getElem?_drop] at hi
    exact hi
  obtain ⟨g, o, rfl, hg, hcl⟩ := h (f + i) x hx
  have hadd : Option.map (fun x : Addr => x.add (f * 3)) (some ⟨g, o, none⟩) = some ⟨g, o + f * 3, none⟩ := by
    show some (if f * 3 = 0 then (⟨g, o, none⟩ : Addr) else ⟨g, o + f * 3, none⟩) = _
    by_cases h0 : f * 3 = 0
    · rw [if_pos h0, h0]
      rfl
    · rw [if_neg h0]
  rw [if_neg (by omega), hadd]
  refine ⟨g, o + f * 3, rfl, hg, fun j u hj => ?_⟩
  rw [show o + f * 3 + i * 3 + j = o + (f + i) * 3 + j by omega]
  exact hcl j u hj
set_option maxRecDepth 100000 in
set_option maxHeartbeats 3200000 in
theorem nothing_any (a : Option Addr) (cap : Nat) (l : List Ent) (p : Prf) (a1 a2 : Option Addr) (c1 c2 : Nat) (w : World) (hl : LIn w a l) (hc : l.length ≤ cap) (hc9 : cap ≤ maxLen) (hp : PIn w p a1 a2 c2) :
    Calls Try.prog 3 #[.slice a l.length cap, prfV p a1 c1 a2 c2] w fun e w' => e = .returned (.bool true) ∧ Below w.heap.size w w' := by
  obtain ⟨W, hW⟩ : ∃ W : World, W = w.alloc (.cells #[.int .i64 p.many, .int .i64 p.first, .slice a1 p.L.length c1, .slice a2 p.B.length c2] 25) := ⟨_, rfl⟩
  obtain ⟨q, hq⟩ : ∃ q, q = w.heap.size := ⟨_, rfl⟩
  have hbw : Below w.heap.size w W := by rw [hW]; exact (Below.refl _ _).alloc (Nat.le_refl _) _
  have hbx : W.heap[q]? = some (boxC p a1 c1 a2 c2) := by rw [hW, hq]; exact heap_alloc_new w _
  have HW : Hid (w.alloc (.cells #[.int .i64 p.many, .int .i64 p.first, .slice a1 p.L.length c1, .slice a2 p.B.length c2] 25) = W ∧ w.heap.size = q) := ⟨hW.symm, hq.symm⟩
  have HIN := Lib.hid (And.intro hl (And.intro hp (And.intro hbw hbx)))
  have HV : Hid (prfV p a1 c1 a2 c2 = .agg #[.int .i64 p.many, .int .i64 p.first, .slice a1 p.L.length c1, .slice a2 p.B.length c2]) := rfl
  have HCAP := Lib.hid hc
  obtain ⟨n, hn⟩ : ∃ n, n = l.length := ⟨_, rfl⟩
  have HN := Lib.hid hn
  unfold prfV
  rw [← hn]
  rw [← hn] at hc
  unfold maxLen at hc9
  have i0 : (n : Int) ≤ (cap : Int) := by omega
  have i9 : (cap : Int) ≤ 9223372036854775807 := by omega
  clear hW hq hbw hbx hl hp hn
  go_enter Try.func3, Try.ntmps3
  go_upto_region 1 with fail
  rw [HW.out.1, HW.out.2]
  go_wp2_with fail
  refine (head_any W).mono ?_
  rintro e w1 ⟨rfl, hb1⟩
  have HB1 := Lib.hid hb1
  clear hb1
  go_wp2_with fail
  refine (Book.new_any w1).mono ?_
  rintro e w2 ⟨b, m, v, rfl, hs2, hb2⟩
  have hB : w.heap.size ≤ w1.heap.size := Nat.le_trans HIN.out.2.2.1.size HB1.out.size
  have hb02 : Below w.heap.size w w2 := (HIN.out.2.2.1.trans (HB1.out.mono HIN.out.2.2.1.size)).trans (hb2.mono hB)
  have H2 : Hid (LawAt w w2 w1.heap.size b m v [] a l ∧ w2.heap[q]? = some (boxC p a1 c1 a2 c2)) := ⟨⟨⟨hs2, List.nodup_nil⟩, HIN.out.1.ents hB hb02, hB, hb02⟩, box_kept hb2 (box_kept HB1.out HIN.out.2.2.2)⟩
  clear hs2 hb2 hb02 hB
  go_wp2_with fail
  have hg := great_any a l cap w2 H2.out.1.ents.lies HIN.out.1.most
  rw [← HN.out] at hg
  refine hg.mono ?_
  rintro e w3 ⟨g, rfl, hg, hb3⟩
  have H3 : Hid (LawAt w w3 w1.heap.size b m v [] a l ∧ w3.heap[q]? = some (boxC p a1 c1 a2 c2)) := ⟨H2.out.1.low hb3, box_kept hb3 H2.out.2⟩
  have HG3 := Lib.hid hg
  clear hg hb3
  cases g with
  | true =>
    go_wp2_with fail
    go_ret
    exact ⟨rfl, H3.out.1.below⟩
  | false =>
    obtain ⟨z0, z1, z2, z3⟩ := boxC_cell H3.out.2
    go_wp2_with fail
    have hg := greatP_any p a1 c1 a2 c2 w3 (HIN.out.2.1.ents.lies.below H3.out.1.below) HIN.out.2.1.ents.most (Nat.le_trans HIN.out.2.1.cap HIN.out.2.1.most)
    rw [HV.out] at hg
    refine hg.mono ?_
    rintro e w4 ⟨g, rfl, hg, hb4⟩
    have H4 : Hid (LawAt w w4 w1.heap.size b m v [] a l ∧ w4.heap[q]? = some (boxC p a1 c1 a2 c2)) := ⟨H3.out.1.low hb4, box_kept hb4 H3.out.2⟩
    have HG4 := Lib.hid hg
    clear hg hb4 z0 z1 z2 z3
    cases g with
    | true =>
      go_wp2_with fail
      go_ret
      exact ⟨rfl, H4.out.1.below⟩
    | false =>
      go_wp2_with fail
      cases hr : rightB l with
      | false =>
        have HR := root_no b a cap l w4 H4.out.1.ents.lies (by have := (HG3.out (by trivial)).1; omega) (HIN.out.1.wide (HG3.out (by trivial)).2) hr
        rw [← HN.out] at HR
        refine HR.mono ?_
        rintro e w5 ⟨rfl, hb5⟩
        have H5 := Lib.hid (H4.out.1.low hb5).below
        clear hb5 hr HR
        unfold wrongV
        go_wp2_with fail
        go_ret
        exact ⟨rfl, H5.out⟩
      | true =>
        have HR := root_yes w1.heap.size b m v [] a cap l w4 H4.out.1.bk H4.out.1.ents (HIN.out.1.wide (HG3.out (by trivial)).2) hr (by simp)
        rw [← HN.out] at HR
        refine HR.mono ?_
        rintro e w5 ⟨v5, T5, d, t, rfl, h5, -, ht, hr5, hl5, hf5⟩
        have hlen := right_len hr
        have hT5 : T5.length ≤ 3000 := by simp at hl5; omega
        have H5 : Hid (LawAt w w5 w1.heap.size b m v5 T5 a l ∧ w5.heap[q]? = some (boxC p a1 c1 a2 c2) ∧ TopAt enc T5 l t ∧ At T5 d (rootT l.length t)) := ⟨H4.out.1.next h5 hf5, hf5.kept _ _ H4.out.2 rfl, ht, hr5⟩
        clear h5 ht hr5 hl5 hf5 HR hlen
        have HRI := Lib.hid hr
        clear hr
        obtain ⟨z0, z1, z2, z3⟩ := boxC_cell H5.out.2.1
        have hp5 : PrfAt w5 w1.heap.size p a1 a2 := HIN.out.2.1.prf H5.out.1.ge H5.out.1.below (HG4.out (by trivial))
        have HP5 := Lib.hid hp5
        clear hp5
        go_wp2_with fail
        by_cases hsh : ∃ n f, Shaped p n f
        · obtain ⟨n0, f, hsh⟩ := hsh
          have hc := chk_yes w1.heap.size b m v5 T5 (d : Int) p n0 f a1 a2 c1 c2 w5 H5.out.1.bk HP5.out HIN.out.2.1.cap hsh (by omega)
          rw [HV.out] at hc
          refine hc.mono ?_
          rintro e w6 ⟨v6, T6, t6, d6, rfl, h6, hx6, ht6, hT6, hf6⟩
          have hn0 := hsh.small
          have H6 : Hid (LawAt w w6 w1.heap.size b m v6 T6 a l ∧ w6.heap[q]? = some (boxC p a1 c1 a2 c2)) := ⟨H5.out.1.next h6 hf6, hf6.kept _ _ H5.out.2.1 rfl⟩
          by_cases hd : (d6 : Int) = (d : Int)
          · rw [if_pos hd]
            have e : d6 = d := by omega
            subst e
            obtain ⟨e1, e2, e3⟩ := told_sound (by omega) ht6 HP5.out.wide (right_good HRI.out (HIN.out.1.wide (HG3.out (by trivial)).2)) (by have := right_len HRI.out; omega) (H5.out.2.2.1.ext hx6) (hx6 _ _ H5.out.2.2.2)
            have hab := part_lies H6.out.1.ents.lies e2 e3 HCAP.out
            obtain ⟨ab, hab0⟩ : ∃ ab, (if cap = f then a else Option.map (fun x => x.add (f * 3)) a) = ab := ⟨_, rfl⟩
            rw [hab0] at hab
            have hsame := same_yes a1 ab c1 (cap - f) p.L.length p.L w6.drew rfl ((HP5.out.keep hf6).ents.lies.drewN 1) (hab.drewN 1) (by have := HP5.out.small; omega)
            have hnn := HN.out
            obtain ⟨ln, hln⟩ : ∃ ln, ln = p.L.length := ⟨_, rfl⟩
            obtain ⟨z0, z1, z2, z3⟩ := boxC_cell H6.out.2
            rw [hsh.many, e1, ← hnn] at z0
            rw [hsh.first] at z1
            rw [← hln] at z2 hsame e3
            rw [← hnn] at e3
            have HSM := Lib.hid hsame
            have j1 : (f : Int) + (ln : Int) ≤ (n : Int) := by omega
            have j2 : (f : Int) + (ln : Int) ≤ (cap : Int) := by omega
            have j3 : (0 : Int) ≤ (f : Int) := by omega
            have j4 : (0 : Int) ≤ (f : Int) + (ln : Int) := by omega
            have j5 : ((f : Int) + (ln : Int)).toNat = f + ln := by omega
            have j6 : IntKind.i64.wrap ((f : Int) + (ln : Int)) = (f : Int) + (ln : Int) := IntWalk.i64_in _ (by omega)
            have j7 : f + ln - f = ln := by omega
            have j8 : (f : Int) ≤ (f : Int) + (ln : Int) := by omega
            clear h6 hx6 ht6 hT6 hf6 hc hd e1 e2 e3 hsame hab hnn hln hsh hn0
            go_wp2_with fail
            refine wp_region_tail 37 (by kernel_rfl) (by kernel_rfl) ?_
            simp only [List.take_succ_cons, List.take_zero, List.drop_succ_cons, List.drop_zero]
            repeat still_step
            refine wpStill_nil ?_
            go_wp2_with (go_at_call 14; refine HSM.out.mono ?_; rintro e w7 ⟨rfl, hb7⟩; have HB7 := Lib.hid hb7; clear hb7)
            go_ret
            exact ⟨rfl, H6.out.1.below.trans (((drew_below w6).trans (HB7.out.mono (drew_below w6).size)).mono H6.out.1.below.size)⟩
          · rw [if_neg hd]
            clear h6 hx6 ht6 hT6 hf6 hc hd
            unfold wrongV
            go_wp2_with fail
            go_ret
            exact ⟨rfl, H6.out.1.below⟩
        · have hc := chk_no w1.heap.size b (d : Int) p a1 a2 c1 c2 w5 HP5.out H5.out.1.bk.le hsh
          rw [HV.out] at hc
          refine hc.mono ?_
          rintro e w6 ⟨rfl, hb6⟩
          have H6 := Lib.hid (H5.out.1.low hb6).below
          clear hb6 hc hsh
          unfold wrongV
          go_wp2_with fail
          go_ret
          exact ⟨rfl, H6.out⟩
end Go.Proofs.Ytlepjjcnlcnnfaa.Merkle
