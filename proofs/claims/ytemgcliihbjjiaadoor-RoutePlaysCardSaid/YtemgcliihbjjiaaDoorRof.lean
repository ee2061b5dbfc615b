/- A route is made, or refused. -/
import Derived.Test.YtemgcliihbjjiaaDoorRown
import Derived.Test.YtemgcliihbjjiaaDoorRofp
namespace Go.Proofs.YtemgcliihbjjiaaDoor
open Go.RowKit Go.My

/-- What Of answers: a route of its own, or an error. -/
def OfLeft (w : World) (l : List Pc) (e : Ending) (w' : World) : Prop :=
  Below w.heap.size w w' ∧ ((ofErr l = none ∧ ∃ r a cap, e = .returned (.tuple #[.pointer (some ⟨r, 0, none⟩), .nilIface]) ∧ w.heap.size ≤ r ∧ RtAt w' r a cap l) ∨ (∃ q, ofErr l = some q ∧ e = .returned (.tuple #[.pointer none, rErr q.1 q.2])))
theorem okAt_idx {l : List Pc} {j : Nat} {x : Pc} (hx : l[j]? = some x) (h : ∀ i, i < j → okAt l i = true) : (fitB x = false → idx l (fun x => !fitB x) = j) ∧ (fitB x = true → idx l (fun x => !fitB x) ≠ j) := by
  constructor
  · intro hf
    refine idx_hit hx (by simp [hf]) ?_
    rw [List.any_eq_false]
    intro y hy
    obtain ⟨i, hi⟩ := List.mem_iff_getElem?.1 hy
    rw [List.getElem?_take] at hi
    split at hi
    · rename_i hij
      have := h i hij
      unfold okAt at this
      rw [getD_of hi, Bool.and_eq_true] at this
      simp [this.1]
    · cases hi
  · intro hf h2
    unfold idx at h2
    split at h2
    · rename_i hlt
      have hj2 : l.findIdx (fun x => !fitB x) = j := by omega
      have := List.findIdx_getElem (p := fun x : Pc => !fitB x) (w := hlt)
      have hx2 := (List.getElem?_eq_some_iff.1 hx)
      obtain ⟨h5, h6⟩ := hx2
      have h7 : l[l.findIdx (fun x => !fitB x)]'hlt = x := by simp only [hj2, h6]
      rw [h7, hf] at this
      cases this
    · omega
set_option maxRecDepth 100000 in
set_option maxHeartbeats 6400000 in
theorem of_10 (a : Option Addr) (cap : Nat) (l : List Pc) (w : World) (h : SrcAny w a cap l) (hl : (l.length : Int) ≤ 70368744177664) : Calls Tryd.prog 10 #[.slice a l.length cap] w (OfLeft w l) := by
  have H := Lib.hid h
  obtain ⟨n, hn⟩ : ∃ n, n = l.length := ⟨_, rfl⟩
  have HN := Lib.hid hn
  rw [← hn] at hl ⊢
  by_cases h0 : n = 0
  · have HE : Hid (ofErr l = some (1, 0)) := by
      show _ = _
      unfold ofErr
      rw [if_pos (by omega)]
    have HW := Lib.hid (wrong_23 1 0 (by decide))
    subst h0
    clear h hn
    go_enter Tryd.func10, Tryd.ntmps10
    go_wp2_with (go_at_call 23; refine (HW.out _).mono ?_; rintro e w2 ⟨rfl, rfl⟩)
    go_ret2
    exact ⟨Below.refl _ _, .inr ⟨(1, 0), HE.out, rfl⟩⟩
  by_cases h32 : 32 < n
  · have HE : Hid (ofErr l = some (71, (n : Int))) := by
      show _ = _
      unfold ofErr
      rw [if_neg (by omega), if_pos (by omega), ← hn]
    have HW := Lib.hid (wrong_23 71 (n : Int) (by decide))
    have h1 : (32 : Int) < (n : Int) := by omega
    clear h hn
    go_enter Tryd.func10, Tryd.ntmps10
    go_wp2_with (go_at_call 23; refine (HW.out _).mono ?_; rintro e w2 ⟨rfl, rfl⟩)
    go_ret2
    exact ⟨Below.refl _ _, .inr ⟨(71, (n : Int)), HE.out, rfl⟩⟩
  · have h1 : ¬ (32 : Int) < (n : Int) := by omega
    have HI := Lib.hid (index_24_25 a cap l w (fun x => !fitB x) h.lies (by omega) (fun x W _ => unfit_25 x W))
    obtain ⟨z, hz⟩ : ∃ z, z = idx l (fun x => !fitB x) := ⟨_, rfl⟩
    have HZ : Hid (∀ j x, l[j]? = some x → (∀ i, i < j → okAt l i = true) → (fitB x = false → z = j) ∧ (fitB x = true → z ≠ j)) := fun j x hx hi => by rw [hz]; exact okAt_idx hx hi
    rw [← hz, ← hn] at HI
    have HER : Hid (∀ j, j < n → okAt l j = false → (∀ i, i < j → okAt l i = true) → ofErr l = some (1, (j : Int))) := fun j hj hb hi => by
      unfold ofErr
      rw [if_neg (by omega), if_neg (by omega), firstBad_some (by omega) hb hi]
      rfl
    have HOK : Hid ((∀ i, i < n → okAt l i = true) → Ok l) := fun hi => ok_of_err (by omega) (by omega) (fun i h => hi i (by omega))
    have HWA := Lib.hid (wrong_23 1)
    clear hz hn h
    go_enter Tryd.func10, Tryd.ntmps10
    go_wp2_with fail
    refine HI.out.mono ?_
    rintro e w1 ⟨rfl, hb1⟩
    have P0 : Hid (Below w.heap.size w w1 ∧ ∀ i, i < 0 → okAt l i = true) := ⟨hb1, fun i h => by omega⟩
    clear hb1
    go_wp2_with fail
    go_loopw [24] (fun i wr => ∃ j : Nat, j ≤ n ∧ i = .int .i64 j ∧ Hid (Below w.heap.size w wr ∧ ∀ i, i < j → okAt l i = true)) (fun i _ => n - (intOf i).toNat)
    case atStart => exact ⟨0, by omega, rfl, P0⟩
    case round =>
      clear P0
      obtain ⟨j, hj, rfl, HB⟩ := hrel
      by_cases hlt : j < n
      · obtain ⟨x, hx⟩ : ∃ x, l[j]? = some x := ⟨_, List.getElem?_eq_getElem (by rw [← HN.out]; exact hlt)⟩
        obtain ⟨g, o, rfl, hg, hc⟩ := H.out.lies.below HB.out.1 j x hx
        have d0 : wr.cell? ⟨g, o + j * 3, none⟩ = some (.string x.fr) := hc 0 _ rfl
        have d1 : wr.cell? ⟨g, o + j * 3 + 1, none⟩ = some (.int .i64 x.sh) := hc 1 _ rfl
        have d2 : wr.cell? ⟨g, o + j * 3 + 2, none⟩ = some (.int .i64 x.ep) := hc 2 _ rfl
        have HX := Lib.hid hx
        obtain ⟨hz1, hz2⟩ := HZ.out j x hx HB.out.2
        have hj0 : (0 : Int) ≤ (j : Int) := by omega
        have hj1 : (j : Int) < (n : Int) := by omega
        obtain ⟨W1, hW1⟩ : ∃ W1, W1 = wr.alloc (.cells #[.string x.fr, .int .i64 x.sh, .int .i64 x.ep] 35) := ⟨_, rfl⟩
        have HB1 : Hid (Below wr.heap.size wr W1) := by show Below _ _ _; rw [hW1]; exact (Below.refl _ wr).alloc (Nat.le_refl _) _
        have HX1 : Hid (W1.heap[wr.heap.size]? = some (.cells #[.string x.fr, .int .i64 x.sh, .int .i64 x.ep] 35 (0, 0))) := by show _ = _; rw [hW1]; exact heap_alloc_new wr _
        have HBW1 : Hid (Below w.heap.size w W1) := HB.out.1.trans (HB1.out.mono HB.out.1.size)
        have HEJ : Hid (okAt l j = false → ofErr l = some (1, (j : Int))) := fun h => HER.out j hlt h HB.out.2
        have HNJ : Hid (okAt l j = true → ∀ q, Hid (Below w.heap.size w (W1.drewN q) ∧ ∀ i, i < j + 1 → okAt l i = true)) := fun h q => ⟨⟨HBW1.out.os, HBW1.out.tape, HBW1.out.output, HBW1.out.size, HBW1.out.block⟩, fun i hi => by
          by_cases e : i = j
          · rw [e]; exact h
          · exact HB.out.2 i (by omega)⟩
        have HBE : Hid (∀ q, Below w.heap.size w (W1.drewN q)) := fun q => ⟨HBW1.out.os, HBW1.out.tape, HBW1.out.output, HBW1.out.size, HBW1.out.block⟩
        have HW : Hid (∀ W, Calls Tryd.prog 23 #[.int .i64 1, .int .i64 (j : Int)] W fun r w' => r = .returned (rErr 1 (j : Int)) ∧ W = w') := HWA.out (j : Int) (by decide)
        have hgx := getD_of hx
        clear hc
        clear HI HOK HER HZ HWA
        rcases Nat.eq_zero_or_pos j with hj00 | hjp
        · subst hj00
          have HOKA : Hid (okAt l 0 = (fitB x && decide (x.fr.size = 0))) := by show _ = _; unfold okAt; rw [begB_zero, hgx]
          simp only [Nat.zero_mul, Nat.add_zero] at d0 d1 d2
          clear hx hgx hj0
          by_cases hs : x.fr.size = 0
          · have HXE := Lib.hid (size_empty hs)
            cases hf : fitB x with
            | false =>
              have hzz := hz1 hf
              have HNO := Lib.hid (HEJ.out (by rw [HOKA.out, hf]; rfl))
              clear HNJ HEJ HOKA hz1 hz2 hf hs
              simp only [Int.natCast_zero] at hzz
              subst hzz
              go_wp2_with fail
              obtain ⟨xb, hxb⟩ : ∃ z, z = wr.heap.size := ⟨_, rfl⟩
              rw [← hW1, ← hxb]
              rw [← hxb] at HX1
              clear hW1 hxb d0 d1 d2 hg
              have lx := lt_of_heap HX1.out
              have x0 : W1.cell? ⟨xb, 0, none⟩ = some (.string ByteArray.empty) := by rw [cell_of_row _ _ _ _ _ _ HX1.out, HXE.out]; rfl
              go_quiet (fail)
              go_wp2_with (go_at_call 23; refine (HW.out _).mono ?_; rintro e w2 ⟨rfl, rfl⟩)
              go_ret2
              exact ⟨HBE.out _, .inr ⟨(1, 0), HNO.out, rfl⟩⟩
            | true =>
              have hzz := hz2 hf
              have HNX := Lib.hid (HNJ.out (by rw [HOKA.out, hf, hs]; rfl))
              clear HNJ HEJ HOKA hz1 hz2 hf hs
              have hzz : ¬ (0 : Int) = z := fun e => hzz e.symm
              go_wp2_with fail
              obtain ⟨xb, hxb⟩ : ∃ z, z = wr.heap.size := ⟨_, rfl⟩
              rw [← hW1, ← hxb]
              rw [← hxb] at HX1
              clear hW1 hxb d0 d1 d2 hg
              have lx := lt_of_heap HX1.out
              have x0 : W1.cell? ⟨xb, 0, none⟩ = some (.string ByteArray.empty) := by rw [cell_of_row _ _ _ _ _ _ HX1.out, HXE.out]; rfl
              go_quiet (fail)
              go_wp2_with fail
              exact ⟨⟨1, by omega, by simp, HNX.out _⟩, by simp [intOf]; omega⟩
          · have hxe := empty_ne hs
            have HNO := Lib.hid (HEJ.out (by rw [HOKA.out]; simp [hs]))
            clear HNJ HEJ HOKA hz1 hz2 hs
            go_wp2_with fail
            obtain ⟨xb, hxb⟩ : ∃ z, z = wr.heap.size := ⟨_, rfl⟩
            rw [← hW1, ← hxb]
            rw [← hxb] at HX1
            clear hW1 hxb d0 d1 d2 hg
            have lx := lt_of_heap HX1.out
            have x0 : W1.cell? ⟨xb, 0, none⟩ = some (.string x.fr) := by rw [cell_of_row _ _ _ _ _ _ HX1.out]; rfl
            go_quiet (fail)
            by_cases hzz : (0 : Int) = z
            · subst hzz
              go_wp2_with (go_at_call 23; refine (HW.out _).mono ?_; rintro e w2 ⟨rfl, rfl⟩)
              go_ret2
              exact ⟨HBE.out _, .inr ⟨(1, 0), HNO.out, rfl⟩⟩
            · go_wp2_with (go_at_call 23; refine (HW.out _).mono ?_; rintro e w2 ⟨rfl, rfl⟩)
              go_ret2
              exact ⟨HBE.out _, .inr ⟨(1, 0), HNO.out, rfl⟩⟩
        · obtain ⟨i, hji⟩ : ∃ i, j = i + 1 := ⟨j - 1, by omega⟩
          obtain ⟨y, hy⟩ : ∃ y, l[i]? = some y := ⟨_, List.getElem?_eq_getElem (by rw [← HN.out]; omega)⟩
          have HOKA : Hid (okAt l j = (fitB x && lessK y.fr x.fr)) := by show _ = _; unfold okAt; rw [hgx, hji, begB_succ, ← hji, hgx, getD_of hy]
          obtain ⟨g', o', hgg, hg', yc⟩ := H.out.lies.below (HBW1.out) i y hy
          obtain ⟨rfl, rfl⟩ : g = g' ∧ o = o' := by simpa using hgg
          have y0 : W1.cell? ⟨g, o + i * 3, none⟩ = some (.string y.fr) := yc 0 _ rfl
          have hsub : IntKind.i64.wrap ((j : Int) - 1) = (i : Int) := by rw [IntKind.wrap_i64]; omega
          have hi0 : (0 : Int) ≤ (i : Int) := by omega
          have hi1 : (i : Int) < (n : Int) := by omega
          have hgt := gtK x.fr y.fr
          have hjp2 : ¬ (j : Int) = 0 := by omega
          have hjp3 : (0 : Int) < (j : Int) := by omega
          clear hx hgx hy yc hgg hji
          cases hf : fitB x with
          | false =>
            have hzz := hz1 hf
            have HNO := Lib.hid (HEJ.out (by rw [HOKA.out, hf]; rfl))
            clear HNJ HEJ HOKA hz1 hz2 hf hgt
            subst hzz
            go_wp2_with fail
            obtain ⟨xb, hxb⟩ : ∃ z, z = wr.heap.size := ⟨_, rfl⟩
            rw [← hW1, ← hxb]
            rw [← hxb] at HX1
            clear hW1 hxb d0 d1 d2 hg
            have lx := lt_of_heap HX1.out
            have x0 : W1.cell? ⟨xb, 0, none⟩ = some (.string x.fr) := by rw [cell_of_row _ _ _ _ _ _ HX1.out]; rfl
            have hjn : decide (0 < j) = true := decide_eq_true hjp
            have hjn0 : ¬ j = 0 := by omega
            go_quiet (fail)
            go_wp2_with (go_at_call 23; refine (HW.out _).mono ?_; rintro e w2 ⟨rfl, rfl⟩)
            go_ret2
            exact ⟨HBE.out _, .inr ⟨(1, (j : Int)), HNO.out, rfl⟩⟩
          | true =>
            have hzz := hz2 hf
            have hzz : ¬ (j : Int) = z := fun e => hzz e.symm
            rw [hf, Bool.true_and] at HOKA
            clear hz1 hz2 hf
            cases hA : Op.bytesLess x.fr.toList y.fr.toList <;> cases hB : x.fr.toList == y.fr.toList
            case false.false =>
              rw [hA, hB] at hgt
              have HNX := Lib.hid (HNJ.out (by rw [HOKA.out, ← hgt]; rfl))
              clear HNJ HEJ HOKA hgt
              go_wp2_with fail
              obtain ⟨xb, hxb⟩ : ∃ z, z = wr.heap.size := ⟨_, rfl⟩
              rw [← hW1, ← hxb]
              rw [← hxb] at HX1
              clear hW1 hxb d0 d1 d2 hg
              have lx := lt_of_heap HX1.out
              have x0 : W1.cell? ⟨xb, 0, none⟩ = some (.string x.fr) := by rw [cell_of_row _ _ _ _ _ _ HX1.out]; rfl
              have hjn : decide (0 < j) = true := decide_eq_true hjp
              have hjn0 : ¬ j = 0 := by omega
              go_quiet (fail)
              go_wp2_with fail
              exact ⟨⟨j + 1, by omega, by simp, HNX.out _⟩, by simp [intOf]; omega⟩
            all_goals
              rw [hA, hB] at hgt
              have HNO := Lib.hid (HEJ.out (by rw [HOKA.out, ← hgt]; rfl))
              clear HNJ HEJ HOKA hgt
              go_wp2_with fail
              obtain ⟨xb, hxb⟩ : ∃ z, z = wr.heap.size := ⟨_, rfl⟩
              rw [← hW1, ← hxb]
              rw [← hxb] at HX1
              clear hW1 hxb d0 d1 d2 hg
              have lx := lt_of_heap HX1.out
              have x0 : W1.cell? ⟨xb, 0, none⟩ = some (.string x.fr) := by rw [cell_of_row _ _ _ _ _ _ HX1.out]; rfl
              have hjn : decide (0 < j) = true := decide_eq_true hjp
              have hjn0 : ¬ j = 0 := by omega
              go_quiet (fail)
              go_wp2_with (go_at_call 23; refine (HW.out _).mono ?_; rintro e w2 ⟨rfl, rfl⟩)
              go_ret2
              exact ⟨HBE.out _, .inr ⟨(1, (j : Int)), HNO.out, rfl⟩⟩
      · obtain rfl : j = n := by omega
        have HOKL := Lib.hid (HOK.out HB.out.2)
        have HC := Lib.hid (clone_26 a cap l wr (H.out.below HB.out.1) (by have := HN.out; omega))
        have HE := Lib.hid (ofErr_ok HOKL.out)
        rw [← HN.out] at HC
        clear HI HOK HER HZ HWA
        go_wp2_with fail
        refine HC.out.mono ?_
        rintro e w2 ⟨v, rfl, ho, hb⟩
        obtain ⟨a', cap', rfl, _⟩ := row_form ho
        have HS := Lib.hid (row_src ho rfl)
        have HB2 := Lib.hid (HB.out.1.trans (hb.mono HB.out.1.size))
        clear hb ho
        rw [← HN.out]
        go_wp2_with fail
        go_ret2
        refine ⟨HB2.out.alloc HB2.out.size _, .inl ⟨HE.out, w2.heap.size, a', cap', rfl, HB2.out.size, ⟨?_, HS.out.below ((Below.refl _ w2).alloc (Nat.le_refl _) _), HOKL.out⟩⟩⟩
        rw [← HN.out]
        exact heap_alloc_new w2 _
end Go.Proofs.YtemgcliihbjjiaaDoor
