/- A store: the entries of a range; how they are walked. -/
import Derived.Test.YtaifmfnmgnmgbaaGreatDoorOf
import Derived.RangeFuncNested
import Derived.RangeFuncBound
import Derived.RangeFuncCalls
import Derived.RangeFuncLeaves
import Derived.RangeFuncBox
import Derived.Shelf.Abstract
import Derived.Shelf.RegionOpen
import Derived.WalkKit
import Derived.OwnWalkIn
import Derived.TacticsInMore
import Derived.LoopNIn
import Derived.LoopIn
import Derived.Maps.AppendAt
import Derived.Sort.BigQuietIn
namespace Go.Proofs.YtaifmfnmgnmgbaaGreatDoor
open Go.RowKit Go.My Go.Shelf
attribute [local go_sem] Oper.semAt_some
/-! ### the entries of a range -/
def belowT (tk : ByteArray) (e : Ent) : Bool := decide (tk = ⟨#[]⟩) || lessK e.key tk
def inR (fr tk : ByteArray) (e : Ent) : Bool := !lessK e.key fr && belowT tk e
theorem split_down (p : Ent → Bool) (hp : ∀ a b : Ent, lessK a.key b.key = true → p b = true → p a = true) : ∀ {L : List Ent}, Up L → L = L.filter p ++ L.filter fun e => !p e
  | [], _ => rfl
  | a :: L, hu => by
    have hu1 := List.pairwise_cons.1 hu
    cases h : p a with
    | true =>
      rw [List.filter_cons_of_pos h, List.filter_cons_of_neg (by simp [h]), List.cons_append, ← split_down p hp hu1.2]
    | false =>
      have hn : ∀ b ∈ L, p b = false := fun b hb => by
        cases h2 : p b with
        | false => rfl
        | true => rw [hp a b (hu1.1 b hb) h2] at h; cases h
      rw [List.filter_cons_of_neg (by simp [h]), List.filter_cons_of_pos (by simp [h]), List.filter_eq_nil_iff.2 fun b hb => by rw [hn b hb]; simp, List.filter_eq_self.2 fun b hb => by rw [hn b hb]; rfl]
      rfl
theorem three {L : List Ent} (hu : Up L) (fr tk : ByteArray) : ∃ A B C, L = A ++ (B ++ C) ∧ L.filter (inR fr tk) = B ∧ (L.filter fun e => !inR fr tk e) = A ++ C ∧ posOf L fr = A.length ∧ (∀ e ∈ B, belowT tk e = true) ∧ ∀ e ∈ C, belowT tk e = false := by
  have h1 := split_down (fun e => lessK e.key fr) (fun a b h h' => lessK_trans h h') hu
  have hu2 : Up (L.filter fun e => !lessK e.key fr) := hu.sublist List.filter_sublist
  have h2 := split_down (belowT tk) (fun a b h h' => by
    unfold belowT at h' ⊢
    rw [Bool.or_eq_true] at h' ⊢
    exact h'.imp id fun h' => lessK_trans h h') hu2
  refine ⟨L.filter fun e => lessK e.key fr, (L.filter fun e => !lessK e.key fr).filter (belowT tk), (L.filter fun e => !lessK e.key fr).filter fun e => !belowT tk e, by rw [← h2]; exact h1, ?_, ?_, rfl, fun e he => (List.mem_filter.1 he).2, fun e he => by simpa using (List.mem_filter.1 he).2⟩
  · rw [List.filter_filter]
    exact List.filter_congr fun e _ => by unfold inR; rw [Bool.and_comm]
  · conv => lhs; rw [h1]
    rw [List.filter_append]
    congr 1
    · exact List.filter_eq_self.2 fun e he => by unfold inR; rw [(List.mem_filter.1 he).2]; rfl
    · refine List.filter_congr fun e he => ?_
      have := (List.mem_filter.1 he).2
      unfold inR
      rw [this]
      rfl
def upto {α : Type} (f : Nat → α) (k : Nat) : List α := (List.range k).map f
theorem upto_succ {α : Type} (f : Nat → α) (k : Nat) : upto f (k + 1) = upto f k ++ [f k] := by simp [upto, List.range_succ]
theorem upto_length {α : Type} (f : Nat → α) (k : Nat) : (upto f k).length = k := by simp [upto]
def rowAt (L : List Ent) (fr : ByteArray) (j : Nat) : Nat × Ent := (posOf L fr + j, (L[posOf L fr + j]?).getD ent0)
def rows (L : List Ent) (fr tk : ByteArray) : List (Nat × Ent) := upto (rowAt L fr) (L.filter (inR fr tk)).length
theorem rows_snd {L : List Ent} (hu : Up L) (fr tk : ByteArray) : (rows L fr tk).map Prod.snd = L.filter (inR fr tk) := by
  obtain ⟨A, B, C, hL, hB, _, hA, _, _⟩ := three hu fr tk
  unfold rows
  rw [hB]
  apply List.ext_getElem
  · simp [upto]
  · intro i h1 h2
    have : i < B.length := h2
    simp only [upto, rowAt, List.map_map, List.getElem_map, List.getElem_range, Function.comp_apply, hA]
    conv => lhs; rw [hL]
    rw [List.getElem?_append_right (by omega), show A.length + i - A.length = i by omega, List.getElem?_append_left this, List.getElem?_eq_getElem this]
    rfl
theorem rows_len (L : List Ent) (fr tk : ByteArray) : (rows L fr tk).length = (L.filter (inR fr tk)).length := upto_length _ _
/-- what the walk reads: of the k-th round -/
theorem row_in {L : List Ent} (hu : Up L) (fr tk : ByteArray) {k : Nat} (hk : k < (L.filter (inR fr tk)).length) : ∃ x, L[posOf L fr + k]? = some x ∧ belowT tk x = true := by
  obtain ⟨A, B, C, hL, hB, _, hA, hb, _⟩ := three hu fr tk
  rw [hB] at hk
  refine ⟨B[k], ?_, hb _ (List.getElem_mem hk)⟩
  rw [hA]
  conv => lhs; rw [hL]
  rw [List.getElem?_append_right (by omega), show A.length + k - A.length = k by omega, List.getElem?_append_left hk, List.getElem?_eq_getElem hk]
theorem row_out {L : List Ent} (hu : Up L) (fr tk : ByteArray) : posOf L fr + (L.filter (inR fr tk)).length ≤ L.length ∧ ∀ x, L[posOf L fr + (L.filter (inR fr tk)).length]? = some x → belowT tk x = false := by
  obtain ⟨A, B, C, hL, hB, _, hA, _, hc⟩ := three hu fr tk
  rw [hB, hA]
  constructor
  · rw [hL]; simp
  · intro x hx
    rw [hL, List.getElem?_append_right (by omega), show A.length + B.length - A.length = B.length by omega, List.getElem?_append_right (Nat.le_refl _)] at hx
    exact hc x (List.mem_of_getElem? hx)
/-! ### the iterator -/
def BoxesAt (W : World) (B p : Nat) (fr tk : ByteArray) : Prop := Boxed W B 39 (.pointer (some ⟨p, 0, none⟩)) ∧ Boxed W (B + 1) 9 (.string fr) ∧ Boxed W (B + 2) 9 (.string tk)
theorem BoxesAt.grown {W W' : World} {B p : Nat} {fr tk : ByteArray} (h : BoxesAt W B p fr tk) {row : Option Nat} (hg : W.grownBy W' row) (hr : ∀ r, row = some r → r ≠ B ∧ r ≠ B + 1 ∧ r ≠ B + 2) : BoxesAt W' B p fr tk :=
  ⟨h.1.kept hg fun e => (hr _ e.symm).1 rfl, h.2.1.kept hg fun e => (hr _ e.symm).2.1 rfl, h.2.2.kept hg fun e => (hr _ e.symm).2.2 rfl⟩
theorem grown_of_below {W W' : World} (h : Below W.heap.size W W') : W.grownBy W' none := ⟨h.os, h.tape, h.output, h.size, fun k hk _ => h.block k hk⟩
theorem drew_grown (W : World) (n : Nat) : W.grownBy (W.drewN n) none := ⟨rfl, rfl, rfl, by simp, fun _ _ _ => rfl⟩
theorem not_empty {k : ByteArray} (h : k ≠ ⟨#[]⟩) : k.toList.isEmpty = false := by
  cases hb : k.toList.isEmpty with
  | false => rfl
  | true => exact absurd (bytes_eq (by rw [List.isEmpty_iff.1 hb, Lib.toList_data])) h
def KeepsW (n₀ B p : Nat) (fr tk : ByteArray) (W W' : World) : Prop := Below n₀ W W' ∧ (BoxesAt W B p fr tk → BoxesAt W' B p fr tk)
set_option maxRecDepth 100000 in
set_option maxHeartbeats 2000000 in
theorem within1_in (n : Nat) (hn : 1 ≤ n) (l B p : Nat) (a : Option Addr) (cap : Nat) (L : List Ent) (fr tk : ByteArray) (w₀ : World) (hs : StoreAt w₀ p a cap L) (hl : L.length ≤ 500) (W : World) (hW : Below w₀.heap.size w₀ W) (hb : BoxesAt W B p fr tk)
    (hF : ∀ W, StoreAt W p a cap L → CallsIn Fence.wide (n - 1) Tryz.prog 51 #[.pointer (some ⟨p, 0, none⟩), .string fr] W (FindLeft W L fr))
    (J Jx : List (Nat × Ent) → World → Prop) (hJ : AbidesFrom W.heap.size J)
    (hY : ∀ pre (x : Nat × Ent) W1, J pre W1 → pre.length < (rows L fr tk).length → YieldAt Fence.wide (n - 1) Tryz.prog l #[.int .i64 (x.1 : Int), .agg #[.string x.2.key, .string x.2.value, .int .i64 x.2.ver]] W1 fun e W' =>
      (e = .returned (.bool true) ∧ J (pre ++ [x]) W' ∧ KeepsW w₀.heap.size B p fr tk W1 W') ∨ (e = .returned (.bool false) ∧ Jx (pre ++ [x]) W'))
    (h0 : J [] W) :
    CallsIn Fence.wide n Tryz.prog 92 #[.func (.yield l) #[] #[], .pointer (some ⟨B, 0, none⟩), .pointer (some ⟨B + 1, 0, none⟩), .pointer (some ⟨B + 2, 0, none⟩)] W fun e W' => (∃ v, e = .returned v) ∧
      ((∃ ys, ys = rows L fr tk ∧ J ys W') ∨ (∃ pre : List (Nat × Ent), True ∧ Jx pre W')) := by
  have HF := Lib.hid (hF W (hs.below hW))
  unfold FindLeft at HF
  have HS := Lib.hid hs
  have HW := Lib.hid hW
  have HBX := Lib.hid hb
  have HJ := Lib.hid hJ
  have HY := Lib.hid hY
  have HI : Hid (∀ k, k < (rows L fr tk).length → ∃ x, L[posOf L fr + k]? = some x ∧ belowT tk x = true) := fun k hk => row_in hs.up fr tk (by rw [← rows_len]; exact hk)
  have HO : Hid (posOf L fr + (rows L fr tk).length ≤ L.length ∧ ∀ x, L[posOf L fr + (rows L fr tk).length]? = some x → belowT tk x = false) := by
    show _ ∧ _
    rw [rows_len]; exact row_out hs.up fr tk
  obtain ⟨N, hN⟩ : ∃ N, N = L.length := ⟨_, rfl⟩
  have HN := Lib.hid hN
  have hN9 : (N : Int) ≤ 500 := by omega
  obtain ⟨n1, hn1⟩ : ∃ n1, n1 = posOf L fr := ⟨_, rfl⟩
  have HN1 := Lib.hid hn1
  obtain ⟨ct, hct⟩ : ∃ ct, ct = (rows L fr tk).length := ⟨_, rfl⟩
  have HCT := Lib.hid hct
  rw [← hct] at HI HO HY
  rw [← hn1] at HI HO HF
  have hle : n1 + ct ≤ N := by rw [hN]; exact HO.out.1
  have HR : Hid (rows L fr tk = upto (rowAt L fr) ct) := by
    show _ = _
    rw [hct, rows_len]; rfl
  rw [HR.out]
  have q1 := hb.1.cell
  have q2 := hb.2.1.cell
  have lb1 := hb.1.lt
  have lb2 := hb.2.1.lt
  clear hs hW hb hJ hY hF hN hn1 hct hl
  have h23 : Fence.wide.fn 51 := trivial
  refine callsIn_of_wp Tryz.func92 rfl trivial ?_ rfl
  simp only [Tryz.ntmps92, List.size_toArray, List.length_cons, List.length_nil, Nat.reduceAdd, Nat.reduceSub, Array.replicate_succ, Array.replicate_zero, List.push_toArray, List.append_toArray, List.nil_append, List.cons_append]
  gi_wp2_with (gi_at_call 51; refine HF.out.mono ?_; rintro e w1 ⟨rfl, hb1⟩)
  have HB1 := Lib.hid hb1
  have P0 : Hid (J (upto (rowAt L fr) 0) w1 ∧ Below w₀.heap.size w₀ w1 ∧ BoxesAt w1 B p fr tk) := ⟨HJ.out [] W w1 none h0 (grown_of_below hb1) (fun _ e => by cases e), HW.out.trans (hb1.mono HW.out.size), HBX.out.grown (grown_of_below hb1) fun _ e => by cases e⟩
  clear hb1
  gi_loopw [7] (fun iv wr => ∃ k i : Nat, iv = .int .i64 (i : Int) ∧ i = n1 + k ∧ k ≤ ct ∧ Hid (J (upto (rowAt L fr) k) wr ∧ Below w₀.heap.size w₀ wr ∧ BoxesAt wr B p fr tk)) (fun iv _ => 1000 - (intOf iv).toNat)
  case atStart => exact ⟨0, n1, rfl, rfl, Nat.zero_le _, P0⟩
  case round =>
    clear P0 q1 q2 lb1 lb2
    obtain ⟨k, i, rfl, hik, hk, HP⟩ := hrel
    have hs := HS.out.below HP.out.2.1
    have q0 : wr.cell? ⟨p, 0, none⟩ = some (.slice a N cap) := by rw [cell_of_row _ _ _ _ _ _ hs.cell, ← HN.out]; rfl
    have lp := lt_of_heap hs.cell
    have q1 := HP.out.2.2.1.cell
    have q3 := HP.out.2.2.2.2.cell
    have lb1 := HP.out.2.2.1.lt
    have lb3 := HP.out.2.2.2.2.lt
    have HG : Hid (∀ m, J (upto (rowAt L fr) k) (wr.drewN m) ∧ Below w₀.heap.size w₀ (wr.drewN m) ∧ BoxesAt (wr.drewN m) B p fr tk) := fun m => ⟨HJ.out _ _ _ none HP.out.1 (drew_grown wr m) (fun _ e => by cases e), HP.out.2.1.trans ⟨rfl, rfl, rfl, by simp, fun _ _ => rfl⟩, HP.out.2.2.grown (drew_grown wr m) fun _ e => by cases e⟩
    have HLI := Lib.hid hs.src.lies
    clear hs
    by_cases hlt : k < ct
    · obtain ⟨x, hx, hbl⟩ := HI.out k hlt
      rw [← hik] at hx
      obtain ⟨g, o, rfl, hg, hc⟩ := HLI.out i x hx
      have d0 : wr.cell? ⟨g, o + i * 3, none⟩ = some (.string x.key) := hc 0 _ rfl
      have d1 : wr.cell? ⟨g, o + i * 3 + 1, none⟩ = some (.string x.value) := hc 1 _ rfl
      have d2 : wr.cell? ⟨g, o + i * 3 + 2, none⟩ = some (.int .i64 x.ver) := hc 2 _ rfl
      have hi0 : (0 : Int) ≤ (i : Int) := by omega
      have hi1 : (i : Int) < (N : Int) := by omega
      have HY2 : Hid (∀ m, YieldAt Fence.wide (n - 1) Tryz.prog l #[.int .i64 (i : Int), .agg #[.string x.key, .string x.value, .int .i64 x.ver]] (wr.drewN m) fun e W' =>
          (e = .returned (.bool true) ∧ J (upto (rowAt L fr) (k + 1)) W' ∧ KeepsW w₀.heap.size B p fr tk (wr.drewN m) W') ∨ (e = .returned (.bool false) ∧ Jx (upto (rowAt L fr) (k + 1)) W')) := fun m => by
        have h := HY.out (upto (rowAt L fr) k) (i, x) (wr.drewN m) (HG.out m).1 (by rw [upto_length]; exact hlt)
        have e : rowAt L fr k = (i, x) := by unfold rowAt; rw [← HN1.out, ← hik, hx]; rfl
        rw [upto_succ, e]
        exact h
      have HIK := Lib.hid hik
      clear hik
      by_cases hto : tk = ⟨#[]⟩
      · subst hto
        clear hc hbl hx
        gi_wp2
        gi_quiet (fail)
        obtain ⟨fn, tmps, assign, body, hy, hR⟩ := HY2.out nq
        gi_wp2
        refine hR.mono ?_
        rintro e W3 (⟨rfl, hJ3, hk3⟩ | ⟨rfl, hJx3⟩)
        · have HP3 : Hid (J (upto (rowAt L fr) (k + 1)) W3 ∧ Below w₀.heap.size w₀ W3 ∧ BoxesAt W3 B p fr ⟨#[]⟩) := ⟨hJ3, (HG.out nq).2.1.trans hk3.1, hk3.2 (HG.out nq).2.2⟩
          clear hJ3 hk3
          gi_wp2
          go_roundw
          case rel => exact ⟨k + 1, i + 1, by simp, by rw [HIK.out]; omega, by omega, HP3⟩
          case measure => simp [intOf]; omega
        · gi_wp2
          refine bodyPost_ret (results_none rfl _ _ _) rfl ?_
          exact ⟨⟨_, rfl⟩, .inr ⟨_, trivial, hJx3⟩⟩
      · have hne : tk.toList.isEmpty = false := not_empty hto
        have hls : lessK x.key tk = true := by
          unfold belowT at hbl
          simpa [hto] using hbl
        unfold lessK at hls
        clear hc hbl hx
        gi_wp2
        gi_quiet (fail)
        obtain ⟨fn, tmps, assign, body, hy, hR⟩ := HY2.out nq
        gi_wp2
        refine hR.mono ?_
        rintro e W3 (⟨rfl, hJ3, hk3⟩ | ⟨rfl, hJx3⟩)
        · have HP3 : Hid (J (upto (rowAt L fr) (k + 1)) W3 ∧ Below w₀.heap.size w₀ W3 ∧ BoxesAt W3 B p fr tk) := ⟨hJ3, (HG.out nq).2.1.trans hk3.1, hk3.2 (HG.out nq).2.2⟩
          clear hJ3 hk3
          gi_wp2
          go_roundw
          case rel => exact ⟨k + 1, i + 1, by simp, by rw [HIK.out]; omega, by omega, HP3⟩
          case measure => simp [intOf]; omega
        · gi_wp2
          refine bodyPost_ret (results_none rfl _ _ _) rfl ?_
          exact ⟨⟨_, rfl⟩, .inr ⟨_, trivial, hJx3⟩⟩
    · obtain rfl : k = ct := by omega
      by_cases hin : i < N
      · obtain ⟨x, hx⟩ : ∃ x, L[i]? = some x := ⟨_, List.getElem?_eq_getElem (by rw [← HN.out]; exact hin)⟩
        have hbl := HO.out.2 x (by rw [← hik]; exact hx)
        obtain ⟨g, o, rfl, hg, hc⟩ := HLI.out i x hx
        have d0 : wr.cell? ⟨g, o + i * 3, none⟩ = some (.string x.key) := hc 0 _ rfl
        have hi0 : (0 : Int) ≤ (i : Int) := by omega
        have hi1 : (i : Int) < (N : Int) := by omega
        have hto : tk ≠ ⟨#[]⟩ := fun h => by subst h; simp [belowT] at hbl
        have hne : tk.toList.isEmpty = false := not_empty hto
        have hls : lessK x.key tk = false := by
          unfold belowT at hbl
          simpa [hto] using hbl
        unfold lessK at hls
        clear hc hbl hx hik
        gi_wp2
        gi_quiet (fail)
        gi_wp2
        go_end0
        exact ⟨⟨_, rfl⟩, .inl ⟨_, rfl, (HG.out nq).1⟩⟩
      · obtain rfl : i = N := by omega
        have hi1 : ¬ (i : Int) < (i : Int) := by omega
        clear hik
        gi_wp2
        gi_quiet (fail)
        gi_wp2
        go_end0
        exact ⟨⟨_, rfl⟩, .inl ⟨_, rfl, (HG.out nq).1⟩⟩
set_option maxRecDepth 100000 in
theorem within_24 (n p : Nat) (fr tk : ByteArray) (w : World) :
    CallsIn Fence.wide n Tryz.prog 52 #[.pointer (some ⟨p, 0, none⟩), .string fr, .string tk] w fun e w' => e = .returned (.func (.func 92) #[] #[.pointer (some ⟨w.heap.size, 0, none⟩), .pointer (some ⟨w.heap.size + 1, 0, none⟩), .pointer (some ⟨w.heap.size + 2, 0, none⟩)]) ∧ Below w.heap.size w w' ∧ w'.heap.size = w.heap.size + 3 ∧ BoxesAt w' w.heap.size p fr tk := by
  obtain ⟨W3, hW3⟩ : ∃ W3, W3 = ((w.alloc (.cells #[.pointer (some ⟨p, 0, none⟩)] 39)).alloc (.cells #[.string fr] 9)).alloc (.cells #[.string tk] 9) := ⟨_, rfl⟩
  have HE : Hid (Below w.heap.size w W3 ∧ W3.heap.size = w.heap.size + 3 ∧ BoxesAt W3 w.heap.size p fr tk) := by
    show _ ∧ _ ∧ _
    rw [hW3]
    refine ⟨(((Below.refl _ w).alloc (Nat.le_refl _) _).alloc (by simp) _).alloc (by simp; omega) _, by simp, ?_, ?_, ?_⟩
    · exact ((Boxed.new w 39 _).alloc _).alloc _
    · have h := Boxed.new (w.alloc (.cells #[.pointer (some ⟨p, 0, none⟩)] 39)) 9 (.string fr)
      rw [World.size_alloc] at h
      exact h.alloc _
    · have h := Boxed.new ((w.alloc (.cells #[.pointer (some ⟨p, 0, none⟩)] 39)).alloc (.cells #[.string fr] 9)) 9 (.string tk)
      rw [World.size_alloc, World.size_alloc] at h
      exact h
  refine callsIn_of_wp Tryz.func52 rfl trivial ?_ rfl
  simp only [Tryz.ntmps52, List.size_toArray, List.length_cons, List.length_nil, Nat.reduceAdd, Nat.reduceSub, Array.replicate_succ, Array.replicate_zero, List.push_toArray, List.append_toArray, List.nil_append, List.cons_append]
  gi_wp2
  rw [← hW3]
  clear hW3
  go_ret
  exact ⟨rfl, HE.out⟩
/-- **What 'within' hands back, called by a loop: the entries of the range, in order.** -/
theorem within_stops (n : Nat) (hn : 1 ≤ n) (B p : Nat) (a : Option Addr) (cap : Nat) (L : List Ent) (fr tk : ByteArray) (w₀ : World) (hs : StoreAt w₀ p a cap L) (hl : L.length ≤ 500) (w : World) (hW : Below w₀.heap.size w₀ w) (hb : BoxesAt w B p fr tk) :
    SeqStopsK Fence.wide n Tryz.prog 92 #[.pointer (some ⟨B, 0, none⟩), .pointer (some ⟨B + 1, 0, none⟩), .pointer (some ⟨B + 2, 0, none⟩)] (fun x : Nat × Ent => #[Value.int .i64 (x.1 : Int), Value.agg #[.string x.2.key, .string x.2.value, .int .i64 x.2.ver]]) (KeepsW w₀.heap.size B p fr tk) (fun ys => ys = rows L fr tk) (fun _ => True) (rows L fr tk).length w := fun l J Jx W hw hJ _ hY h0 =>
  within1_in n hn l B p a cap L fr tk w₀ hs hl W (hW.trans (hw.mono hW.size)) (hb.grown (grown_of_below hw) fun _ e => by cases e) (fun W h => callsIn_wide.2 (find_23 p a cap L fr W h (by omega))) J Jx hJ hY h0
theorem keepsW_t {n₀ B p : Nat} {fr tk : ByteArray} {X Y Z : World} (h : KeepsW n₀ B p fr tk X Y) (k : KeepsW n₀ B p fr tk Y Z) : KeepsW n₀ B p fr tk X Z := ⟨h.1.trans k.1, fun q => k.2 (h.2 q)⟩
theorem keepsW_b {n₀ B p : Nat} {fr tk : ByteArray} {w : World} (hn : n₀ ≤ w.heap.size) (hB : B + 2 < w.heap.size) (W : World) (l : Nat) (o o' : Obj) (hl : w.heap.size ≤ l) (h : W.heap[l]? = some o) (h1 : o.isCells = false) (h2 : o.isWalk = false) : KeepsW n₀ B p fr tk W (W.putObj l o') :=
  ⟨belowK_b hn W l o o' hl h h1 h2, fun q => q.grown (grownBy_putObj' W l o') fun r e => by cases e; exact ⟨by omega, by omega, by omega⟩⟩
end Go.Proofs.YtaifmfnmgnmgbaaGreatDoor
