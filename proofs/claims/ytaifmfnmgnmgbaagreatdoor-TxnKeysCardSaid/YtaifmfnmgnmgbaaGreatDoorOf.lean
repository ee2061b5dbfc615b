/- A store: the one that has some entries. -/
import Derived.Test.YtaifmfnmgnmgbaaGreatDoorJoin
namespace Go.Proofs.YtaifmfnmgnmgbaaGreatDoor
open Go.RowKit Go.My
/-- do entries rise, each behind the one ahead? -/
def Adj (L : List Ent) : Prop := ∀ (i : Nat) x y, L[i]? = some x → L[i + 1]? = some y → lessK x.key y.key = true
theorem up_of_adj {L : List Ent} (h : Adj L) : Up L := by
  have key : ∀ (d i : Nat) x y, L[i]? = some x → L[i + 1 + d]? = some y → lessK x.key y.key = true := by
    intro d
    induction d with
    | zero => exact fun i x y h1 h2 => h i x y h1 h2
    | succ d ih =>
      intro i x y h1 h2
      have hl := (List.getElem?_eq_some_iff.1 h2).1
      have hz : L[i + 1 + d]? = some L[i + 1 + d] := List.getElem?_eq_getElem (by omega)
      exact lessK_trans (ih i x _ h1 hz) (h (i + 1 + d) _ y hz h2)
  unfold Up
  rw [List.pairwise_iff_getElem]
  intro i j hi hj hij
  exact key (j - i - 1) i _ _ (List.getElem?_eq_getElem hi) (by rw [show i + 1 + (j - i - 1) = j by omega]; exact List.getElem?_eq_getElem hj)
theorem adj_of_up {L : List Ent} (h : Up L) : Adj L := fun i _ _ h1 h2 => up_get h (Nat.lt_succ_self i) h1 h2
/-- May entries be a store's? -/
structure OfOK (L : List Ent) : Prop where
  fit : ∀ e ∈ L, fitE e = true
  up : Up L
  few : L.length ≤ 128
theorem row_src {w : World} {base n cap : Nat} {a : Option Addr} {L : List Ent} (h : w.ownsRow base 42 3 (.slice a n cap) n (L.flatMap entL)) (hn : n = L.length) : SrcAt w a cap L := by
  subst hn
  refine ⟨fun i x hi => ?_, fun h0 => ?_, fun b hb => ?_, ?_, ?_⟩
  · have hlt := (List.getElem?_eq_some_iff.1 hi).1
    obtain ⟨g, rfl, h1, h2⟩ := row_pos h (by omega)
    refine ⟨g, 0, rfl, h2, fun j v hj => ?_⟩
    have hj3 : j < 3 := (List.getElem?_eq_some_iff.1 hj).1
    rw [Nat.zero_add, row_cell h entL_len rfl hi hj3, hj]
  · subst h0
    rcases h.2 with ⟨h1, _⟩ | ⟨g, c, cur, h1, _⟩
    · injection h1
    · injection h1 with h2; cases h2
  · subst hb
    rcases h.2 with ⟨h1, _⟩ | ⟨g, c, cur, h1, _⟩
    · injection h1 with h2; cases h2
    · injection h1 with h2; injection h2 with h3; rw [h3]
  · rcases h.2 with ⟨h1, _⟩ | ⟨g, c, cur, h1, _, _, h4, _⟩
    · injection h1 with _ h2 h3; omega
    · injection h1 with _ _ h3; omega
  · rcases h.2 with ⟨h1, _⟩ | ⟨g, c, cur, h1, _, _, _, h5, _⟩
    · injection h1 with _ h2 h3; rw [h3]; exact Nat.zero_le _
    · injection h1 with _ _ h3; rw [h3]; exact h5
def CloneLeft (w : World) (L : List Ent) (e : Ending) (w' : World) : Prop := ∃ a cap, e = .returned (.slice a L.length cap) ∧ SrcAt w' a cap L ∧ Below w.heap.size w w'
set_option maxRecDepth 100000 in
theorem clone_22 (a : Option Addr) (cap : Nat) (L : List Ent) (w : World) (h : SrcAny w a cap L) (hl : L.length ≤ 1000) : Calls Tryz.prog 42 #[.slice a L.length cap] w (CloneLeft w L) := by
  have H := Lib.hid h
  cases a with
  | none =>
    obtain rfl := h.nil rfl
    have hL : L = [] := List.length_eq_zero_iff.1 (by have := h.room; omega)
    subst hL
    clear h hl
    have hs := fun (W : World) (a : Option Addr) (n c : Nat) => Lib.run_eql_slice_nil (P := Tryz.prog) W 38 42 a n c 0 0 Tryz.underlying38
    go_enter Tryz.func42, Tryz.ntmps42
    go_wp2_with fail
    go_ret
    exact ⟨none, 0, rfl, ⟨H.out.lies, H.out.nil, (fun b h => by cases h), H.out.room, H.out.max⟩, Below.refl _ _⟩
  | some ad =>
    have HR : Hid ((w.alloc (.cells #[] 42)).ownsRow w.heap.size 42 3 (.slice (some ⟨w.heap.size, 0, none⟩) 0 0) ([] : List Ent).length (([] : List Ent).flatMap entL)) := World.ownsRow_lit w _ 0 (Nat.le_refl _) (Nat.zero_le _) (by rfl)
    have HB : Hid (Below w.heap.size w (w.alloc (.cells #[] 42))) := (Below.refl _ w).alloc (Nat.le_refl _) _
    have hl9 := hl
    clear h hl
    have hs := fun (W : World) (a : Option Addr) (n c : Nat) => Lib.run_eql_slice_nil (P := Tryz.prog) W 38 42 a n c 0 0 Tryz.underlying38
    go_enter Tryz.func42, Tryz.ntmps42
    go_wp2_with (at_builtin; refine append_src rfl _ _ rfl w.heap.size _ [] L rfl HR.out (some ad) cap rfl (H.out.below HB.out) (by simp) (by omega) HB.out.size ?_)
    intro v' w3 hown hgrow
    have hb3 : Below w.heap.size w w3 := HB.out.trans ((Wrote.of_grown hgrow).below HB.out.size fun g hg' => by
      simp only [Option.mem_toList] at hg'
      exact (row_block HR.out hg').1)
    obtain ⟨a', cap', rfl, _⟩ := row_form hown
    have HS := Lib.hid (row_src hown rfl)
    have HB3 := Lib.hid hb3
    clear hown hgrow hb3
    go_wp2_with fail
    go_ret
    exact ⟨a', cap', rfl, HS.out, HB3.out⟩
/-- What Of answers: none, or a store of its own. -/
def OfLeft (w : World) (L : List Ent) (e : Ending) (w' : World) : Prop :=
  Below w.heap.size w w' ∧ ((e = .returned (.pointer none) ∧ ¬ OfOK L) ∨ (∃ p a cap, e = .returned (.pointer (some ⟨p, 0, none⟩)) ∧ OfOK L ∧ w.heap.size ≤ p ∧ w'.heap[p]? = some (.cells #[.slice a L.length cap] 92 (0, 0)) ∧ SrcAt w' a cap L))
set_option maxRecDepth 100000 in
set_option maxHeartbeats 3200000 in
theorem of_9 (a : Option Addr) (cap : Nat) (L : List Ent) (w : World) (h : SrcAny w a cap L) (hl : (L.length : Int) ≤ 70368744177664) (hz : ∀ e ∈ L, e.key.size ≤ maxLen ∧ e.value.size ≤ maxLen) : Calls Tryz.prog 14 #[.slice a L.length cap] w (OfLeft w L) := by
  have H := Lib.hid h
  have HZ := Lib.hid hz
  obtain ⟨n, hn⟩ : ∃ n, n = L.length := ⟨_, rfl⟩
  have HN := Lib.hid hn
  rw [← hn] at hl ⊢
  have P0 : Hid (Below w.heap.size w w ∧ (∀ e ∈ L.take 0, fitE e = true) ∧ ∀ (i : Nat) x y, i + 1 < 0 → L[i]? = some x → L[i + 1]? = some y → lessK x.key y.key = true) := ⟨Below.refl _ _, by simp, fun i x y h => by omega⟩
  clear h hn hz
  go_enter Tryz.func14, Tryz.ntmps14
  go_wp2_with fail
  go_loopw [7] (fun i wr => ∃ j : Nat, j ≤ n ∧ i = .int .i64 j ∧ Hid (Below w.heap.size w wr ∧ (∀ e ∈ L.take j, fitE e = true) ∧ ∀ (i : Nat) x y, i + 1 < j → L[i]? = some x → L[i + 1]? = some y → lessK x.key y.key = true)) (fun i _ => n - (intOf i).toNat)
  case atStart => exact ⟨0, by omega, rfl, P0⟩
  case round =>
    clear P0
    obtain ⟨j, hj, rfl, HB⟩ := hrel
    by_cases hlt : j < n
    · obtain ⟨x, hx⟩ : ∃ x, L[j]? = some x := ⟨_, List.getElem?_eq_getElem (by rw [← HN.out]; exact hlt)⟩
      obtain ⟨g, o, rfl, hg, hc⟩ := H.out.lies.below HB.out.1 j x hx
      have d0 : wr.cell? ⟨g, o + j * 3, none⟩ = some (.string x.key) := hc 0 _ rfl
      have d1 : wr.cell? ⟨g, o + j * 3 + 1, none⟩ = some (.string x.value) := hc 1 _ rfl
      have d2 : wr.cell? ⟨g, o + j * 3 + 2, none⟩ = some (.int .i64 x.ver) := hc 2 _ rfl
      have HX := Lib.hid hx
      have hj0 : (0 : Int) ≤ (j : Int) := by omega
      have hj1 : (j : Int) < (n : Int) := by omega
      obtain ⟨W1, hW1⟩ : ∃ W1, W1 = wr.alloc (.cells #[.string x.key, .string x.value, .int .i64 x.ver] 42) := ⟨_, rfl⟩
      have HB1 : Hid (Below wr.heap.size wr W1) := by show Below _ _ _; rw [hW1]; exact (Below.refl _ wr).alloc (Nat.le_refl _) _
      have HX1 : Hid (W1.heap[wr.heap.size]? = some (.cells #[.string x.key, .string x.value, .int .i64 x.ver] 42 (0, 0))) := by show _ = _; rw [hW1]; exact heap_alloc_new wr _
      have HBW1 : Hid (Below w.heap.size w W1) := HB.out.1.trans (HB1.out.mono HB.out.1.size)
      clear hx hc
      go_wp2_with fail
      obtain ⟨xb, hxb⟩ : ∃ z, z = wr.heap.size := ⟨_, rfl⟩
      rw [← hW1, ← hxb]
      rw [← hxb] at HX1
      clear hW1 hxb d0 d1 d2 hg
      have lx := lt_of_heap HX1.out
      have x0 : ∀ X : Later W1, X.1.cell? ⟨xb, 0, none⟩ = some (.string x.key) := fun X => by rw [cell_of_row _ _ _ _ _ _ ((X.2.block _ lx).trans HX1.out)]; rfl
      have x1 : ∀ X : Later W1, X.1.cell? ⟨xb, 1, none⟩ = some (.string x.value) := fun X => by rw [cell_of_row _ _ _ _ _ _ ((X.2.block _ lx).trans HX1.out)]; rfl
      have x2 : ∀ X : Later W1, X.1.cell? ⟨xb, 2, none⟩ = some (.int .i64 x.ver) := fun X => by rw [cell_of_row _ _ _ _ _ _ ((X.2.block _ lx).trans HX1.out)]; rfl
      have HQ : Hid (∀ X : Later W1, Calls Tryz.prog 41 #[.agg #[.string x.key, .string x.value, .int .i64 x.ver]] X.1 fun e w' => e = .returned (.bool (fitE x)) ∧ ∃ Y : Later W1, w' = Y.1) := fun X => later_call (fits_21 x X.1)
      have HEND : Hid (∀ X : Later W1, Below w.heap.size w X.1) := fun X => HBW1.out.trans (X.2.mono HBW1.out.size)
      cases hfit : fitE x with
      | false =>
        have HNO : Hid (¬ OfOK L) := fun h => by have := h.fit x (List.mem_of_getElem? HX.out); rw [hfit] at this; cases this
        rw [hfit] at HQ
        clear hfit
        go_wp2_with fail
        have here := Later.here W1
        refine wp_region_later (by kernel_rfl) (by kernel_rfl) ?_
        iterate 18 (with_reducible refine wpQuiet_step (fun K hK => ?_); go_simp; first | (refine hK _ ?_; clear hK K) | (rw [if_neg (by decide)]; refine hK _ ?_; clear hK K) | (apply Exists.intro; refine ⟨fun _ => ?_, hK _ ?_⟩; (go_at_call 41; with_reducible exact HQ.out _); clear hK K))
        with_reducible refine wpQuiet_nil ?_
        intro X
        go_wp2_with fail
        go_ret
        exact ⟨HEND.out X, .inl ⟨rfl, HNO.out⟩⟩
      | true =>
        have HFT : Hid (∀ e ∈ L.take (j + 1), fitE e = true) := by
          show ∀ _, _
          rw [List.take_add_one, HX.out]
          intro e he
          rcases List.mem_append.1 he with he | he
          · exact HB.out.2.1 e he
          · simp at he
            subst he
            exact hfit
        rw [hfit] at HQ
        clear hfit
        rcases Nat.eq_zero_or_pos j with hj00 | hjp
        · have HRS : Hid (∀ (i : Nat) x y, i + 1 < j + 1 → L[i]? = some x → L[i + 1]? = some y → lessK x.key y.key = true) := fun i x y h => by omega
          have hgt : decide (0 < j) = false := decide_eq_false (by omega)
          go_wp2_with fail
          have here := Later.here W1
          refine wp_region_later (by kernel_rfl) (by kernel_rfl) ?_
          iterate 18 (with_reducible refine wpQuiet_step (fun K hK => ?_); go_simp; first | (refine hK _ ?_; clear hK K) | (rw [if_neg (by decide)]; refine hK _ ?_; clear hK K) | (apply Exists.intro; refine ⟨fun _ => ?_, hK _ ?_⟩; (go_at_call 41; with_reducible exact HQ.out _); clear hK K))
          with_reducible refine wpQuiet_nil ?_
          intro X
          go_wp2_with fail
          exact ⟨⟨j + 1, by omega, by simp [hj00], HEND.out X, HFT.out, HRS.out⟩, by simp [intOf]; omega⟩
        · obtain ⟨i, hji⟩ : ∃ i, j = i + 1 := ⟨j - 1, by omega⟩
          obtain ⟨y, hy⟩ : ∃ y, L[i]? = some y := ⟨_, List.getElem?_eq_getElem (by rw [← HN.out]; omega)⟩
          obtain ⟨g', o', hgg, hg, yc⟩ := H.out.lies i y hy
          obtain ⟨rfl, rfl⟩ : g = g' ∧ o = o' := by simpa using hgg
          have y0 : ∀ X : Later W1, X.1.cell? ⟨g, o + i * 3, none⟩ = some (.string y.key) := fun X => ((HEND.out X).cell (p := ⟨g, _, none⟩) hg).trans (yc 0 _ rfl)
          have hgt : decide (0 < j) = true := decide_eq_true (by omega)
          have hgp : 0 < j := by omega
          have hsub : IntKind.i64.wrap ((j : Int) - 1) = (i : Int) := by rw [IntKind.wrap_i64]; omega
          have hi0 : (0 : Int) ≤ (i : Int) := by omega
          have hi1 : (i : Int) < (n : Int) := by omega
          have HY := Lib.hid hy
          have HJI := Lib.hid hji
          clear hy yc hgg hjp hji
          cases hless : Op.bytesLess y.key.toList x.key.toList with
          | true =>
            have HRS : Hid (∀ (i : Nat) x y, i + 1 < j + 1 → L[i]? = some x → L[i + 1]? = some y → lessK x.key y.key = true) := fun i' x' y' h1 h2 h3 => by
              by_cases q : i' = i
              · subst q
                rw [HY.out] at h2
                rw [← HJI.out, HX.out] at h3
                cases h2
                cases h3
                exact hless
              · exact HB.out.2.2 i' x' y' (by have := HJI.out; omega) h2 h3
            go_wp2_with fail
            have here := Later.here W1
            refine wp_region_later (by kernel_rfl) (by kernel_rfl) ?_
            iterate 18 (with_reducible refine wpQuiet_step (fun K hK => ?_); go_simp; first | (refine hK _ ?_; clear hK K) | (rw [if_neg (by decide)]; refine hK _ ?_; clear hK K) | (apply Exists.intro; refine ⟨fun _ => ?_, hK _ ?_⟩; (go_at_call 41; with_reducible exact HQ.out _); clear hK K))
            with_reducible refine wpQuiet_nil ?_
            intro X
            go_wp2_with fail
            exact ⟨⟨j + 1, by omega, by simp, HEND.out X, HFT.out, HRS.out⟩, by simp [intOf]; omega⟩
          | false =>
            have HNO : Hid (¬ OfOK L) := fun h => by
              have := up_get h.up (show i < j by have := HJI.out; omega) HY.out HX.out
              unfold lessK at this
              rw [hless] at this
              cases this
            go_wp2_with fail
            have here := Later.here W1
            refine wp_region_later (by kernel_rfl) (by kernel_rfl) ?_
            iterate 18 (with_reducible refine wpQuiet_step (fun K hK => ?_); go_simp; first | (refine hK _ ?_; clear hK K) | (rw [if_neg (by decide)]; refine hK _ ?_; clear hK K) | (apply Exists.intro; refine ⟨fun _ => ?_, hK _ ?_⟩; (go_at_call 41; with_reducible exact HQ.out _); clear hK K))
            with_reducible refine wpQuiet_nil ?_
            intro X
            go_wp2_with fail
            go_ret
            exact ⟨HEND.out X, .inl ⟨rfl, HNO.out⟩⟩
    · obtain rfl : j = n := by omega
      have HUP : Hid (Up L) := up_of_adj fun i x y h1 h2 => HB.out.2.2 i x y (by have := (List.getElem?_eq_some_iff.1 h2).1; rw [HN.out]; omega) h1 h2
      have HFT : Hid (∀ e ∈ L, fitE e = true) := by
        have h := HB.out.2.1
        rw [List.take_of_length_le (by rw [HN.out]; exact Nat.le_refl _)] at h
        exact h
      by_cases h128 : (128 : Int) < (j : Int)
      · have HNO : Hid (¬ OfOK L) := fun h => by have := h.few; have := HN.out; omega
        go_wp2_with fail
        go_ret
        exact ⟨HB.out.1, .inl ⟨rfl, HNO.out⟩⟩
      · have HOK : Hid (OfOK L) := ⟨HFT.out, HUP.out, by have := HN.out; omega⟩
        have HC := Lib.hid (clone_22 a cap L wr (H.out.below HB.out.1) (by have := HOK.out.few; omega))
        rw [← HN.out] at HC
        go_wp2_with fail
        refine HC.out.mono ?_
        rintro e w1 ⟨a', cap', rfl, hs, hb1⟩
        have HB1 := Lib.hid (HB.out.1.trans (hb1.mono HB.out.1.size))
        have HS := Lib.hid hs
        clear hb1 hs
        rw [← HN.out]
        go_wp2_with fail
        go_ret
        refine ⟨HB1.out.alloc HB1.out.size _, .inr ⟨w1.heap.size, a', cap', rfl, HOK.out, HB1.out.size, ?_, HS.out.below ((Below.refl _ w1).alloc (Nat.le_refl _) _)⟩⟩
        rw [← HN.out]
        exact heap_alloc_new w1 _
end Go.Proofs.YtaifmfnmgnmgbaaGreatDoor
