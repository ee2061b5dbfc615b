/- The document's route: pieces cut at a key. -/
import Derived.Test.YtemgcliihbjjiaaDoorRref2
namespace Go.Proofs.YtemgcliihbjjiaaDoor
open Go.RowKit Go.My

def pieceL (k : ByteArray) (l : List Pc) (i : Nat) : List Pc :=
  match l.drop i with
  | [] => []
  | x :: r => if lessK x.fr k && nextB k r then [x, ⟨k, x.sh, x.ep⟩] else [x]
def cutP (k : ByteArray) (l : List Pc) (j : Nat) : List Pc := (List.range j).flatMap (pieceL k l)
theorem cutP_succ (k : ByteArray) (l : List Pc) (j : Nat) : cutP k l (j + 1) = cutP k l j ++ pieceL k l j := by
  unfold cutP
  rw [List.range_succ, List.flatMap_append]
  simp
theorem cutP_all (k : ByteArray) : ∀ l : List Pc, cutP k l l.length = cutL k l
  | [] => rfl
  | x :: r => by
    have ih := cutP_all k r
    unfold cutP at ih ⊢
    rw [List.length_cons, List.range_succ_eq_map, List.flatMap_cons, List.flatMap_map]
    have e : (fun a => pieceL k (x :: r) (Nat.succ a)) = pieceL k r := rfl
    have e' : (List.range r.length).flatMap (fun a => pieceL k (x :: r) a.succ) = cutL k r := ih
    rw [e', cutL]
    show (if lessK x.fr k && nextB k r then [x, ⟨k, x.sh, x.ep⟩] else [x]) ++ _ = _
    split <;> rfl
theorem pieceL_at {k : ByteArray} {l : List Pc} {j : Nat} {x : Pc} (hx : l[j]? = some x) : pieceL k l j = if lessK x.fr k && (decide (j + 1 = l.length) || lessK k (l.getD (j + 1) pc0).fr) then [x, ⟨k, x.sh, x.ep⟩] else [x] := by
  obtain ⟨hj, he⟩ := List.getElem?_eq_some_iff.1 hx
  unfold pieceL
  rw [List.drop_eq_getElem_cons hj, he]
  have h2 : nextB k (l.drop (j + 1)) = (decide (j + 1 = l.length) || lessK k (l.getD (j + 1) pc0).fr) := by
    by_cases hl : j + 1 = l.length
    · rw [List.drop_eq_nil_of_le (by omega), hl]
      simp [nextB]
    · have hj1 : j + 1 < l.length := by omega
      rw [List.drop_eq_getElem_cons hj1, getD_of (List.getElem?_eq_getElem hj1)]
      simp [nextB, hl]
  simp only [h2]
theorem cutP_len (k : ByteArray) (l : List Pc) (j : Nat) : (cutP k l j).length ≤ 2 * j := by
  induction j with
  | zero => exact Nat.le_refl _
  | succ j ih =>
    rw [cutP_succ, List.length_append]
    have : (pieceL k l j).length ≤ 2 := by
      unfold pieceL
      split
      · simp
      · split <;> simp
    omega
def CutRow (w : World) (R : List Pc) (v : Value) (W : World) : Prop := W.ownsRow w.heap.size 35 3 v R.length (R.flatMap pcL) ∧ Below w.heap.size w W
theorem cutRow_step {w W W2 W3 : World} {R : List Pc} {v v' : Value} {x : Pc} (h : CutRow w R v W) (hb : Below W.heap.size W W2) (hown : W3.ownsRow w.heap.size 35 3 v' (R ++ [x]).length ((R ++ [x]).flatMap pcL)) (hw : W2.grownBy W3 v.ownBlock) : CutRow w (R ++ [x]) v' W3 := by
  refine ⟨hown, ?_⟩
  have h2 := h.2.trans (hb.mono h.2.size)
  have hW : Wrote v.ownBlock.toList W2 W3 := Wrote.of_grown hw
  exact h2.trans (hW.below h2.size fun g hg' => by
    simp only [Option.mem_toList] at hg'
    exact (row_block h.1 hg').1)
theorem CutRow.below {w W W2 : World} {R : List Pc} {v : Value} (h : CutRow w R v W) (hb : Below W.heap.size W W2) : CutRow w R v W2 := ⟨row_below h.1 hb, h.2.trans (hb.mono h.2.size)⟩
set_option maxRecDepth 100000 in
set_option maxHeartbeats 3200000 in
theorem cut_39 (a : Option Addr) (cap : Nat) (L : List Pc) (k : ByteArray) (w : World) (h : SrcAny w a cap L) (hl : L.length ≤ 200) : Calls Tryd.prog 39 #[.slice a L.length cap, .string k] w (RowLeft w (cutL k L)) := by
  have H := Lib.hid h
  obtain ⟨n, hn⟩ : ∃ n, n = L.length := ⟨_, rfl⟩
  have HN := Lib.hid hn
  have hn9 : (n : Int) ≤ 200 := by omega
  rw [← hn]
  have P0 : Hid (CutRow w (cutP k L 0) (.slice none 0 0) w) := ⟨World.ownsRow_nil _ _ _ _, Below.refl _ _⟩
  clear h hl hn
  go_enter Tryd.func39, Tryd.ntmps39
  go_wp2_with fail
  go_loopw [5, 6] (fun v i wr => ∃ j : Nat, j ≤ n ∧ i = .int .i64 j ∧ Hid (CutRow w (cutP k L j) v wr)) (fun _ i _ => n - (intOf i).toNat)
  case atStart => exact ⟨0, by omega, rfl, P0⟩
  case round =>
    clear P0
    obtain ⟨j, hj, rfl, HC⟩ := hrel
    by_cases hlt : j < n
    · obtain ⟨x, hx⟩ : ∃ x, L[j]? = some x := ⟨_, List.getElem?_eq_getElem (by rw [← HN.out]; exact hlt)⟩
      have HXL := Lib.hid hx
      obtain ⟨g, o, rfl, lg, hc⟩ := H.out.lies.below HC.out.2 j x hx
      have d0 : wr.cell? ⟨g, o + j * 3, none⟩ = some (.string x.fr) := hc 0 _ rfl
      have d1 : wr.cell? ⟨g, o + j * 3 + 1, none⟩ = some (.int .i64 x.sh) := hc 1 _ rfl
      have d2 : wr.cell? ⟨g, o + j * 3 + 2, none⟩ = some (.int .i64 x.ep) := hc 2 _ rfl
      have hj0 : (0 : Int) ≤ (j : Int) := by omega
      have hj1 : (j : Int) < (n : Int) := by omega
      have HPC := Lib.hid (pieceL_at (k := k) hx)
      have HLN : Hid ((cutP k L j).length ≤ 1000) := by have := cutP_len k L j; show _ ≤ _; omega
      clear hx hc
      go_wp2_with (at_builtin; refine append_src rfl _ _ rfl w.heap.size _ (cutP k L j) [x] rfl (HC.out.1.alloc _) _ 1 rfl (src_one (heap_alloc_new wr _)) (by have := HLN.out; omega) (by simp) (by have := HC.out.2.size; simp; omega) ?_)
      intro v' w4 hown hgrow
      have HC4 : Hid (CutRow w (cutP k L j ++ [x]) v' w4) := cutRow_step HC.out ((Below.refl _ wr).alloc (Nat.le_refl _) _) (by rw [List.length_append, List.flatMap_append]; simpa using hown) hgrow
      clear hown hgrow d0 d1 d2 lg
      obtain ⟨g', o', e1, lg, hc⟩ := H.out.lies.below HC4.out.2 j x HXL.out
      obtain ⟨rfl, rfl⟩ : g = g' ∧ o = o' := by simpa using e1
      have d0 : w4.cell? ⟨g, o + j * 3, none⟩ = some (.string x.fr) := hc 0 _ rfl
      have d1 : w4.cell? ⟨g, o + j * 3 + 1, none⟩ = some (.int .i64 x.sh) := hc 1 _ rfl
      have d2 : w4.cell? ⟨g, o + j * 3 + 2, none⟩ = some (.int .i64 x.ep) := hc 2 _ rfl
      obtain ⟨cb, hcb⟩ : ∃ cb, cb = (lessK x.fr k && (decide (j + 1 = L.length) || lessK k (L.getD (j + 1) pc0).fr)) := ⟨_, rfl⟩
      have HCB := Lib.hid hcb
      rw [← hcb] at HPC
      clear e1 hc hcb
      go_upto_region 7 with fail
      obtain ⟨lb, hlb⟩ : ∃ lb, ((j : Int) + 1 == (n : Int)) = lb := ⟨_, rfl⟩
      have HLB : Hid (lb = decide (j + 1 = n)) := by
        show _ = _
        rw [← hlb, Bool.eq_iff_iff]
        simp
        omega
      rw [hlb]
      clear hlb
      go_cut [46] from 27 to 45 (fun v wx => v = .bool cb ∧ w4 = wx)
      case first =>
        cases h1 : lessK x.fr k with
        | false =>
          have b1 : Op.bytesLess x.fr.toList k.toList = false := h1
          have HV : Hid (cb = false) := by show _ = _; rw [HCB.out, h1]; rfl
          clear h1
          go_wp2_with fail
          go_meet
          exact ⟨by rw [HV.out], rfl⟩
        | true =>
          have b1 : Op.bytesLess x.fr.toList k.toList = true := h1
          by_cases hl : j + 1 = n
          · have hlbt : lb = true := by rw [HLB.out]; exact decide_eq_true hl
            have HV : Hid (cb = true) := by show _ = _; rw [HCB.out, h1, ← HN.out]; simp [hl]
            clear h1 hl
            subst hlbt
            go_wp2_with fail
            go_meet
            exact ⟨by rw [HV.out], rfl⟩
          · have hlbt : lb = false := by rw [HLB.out]; exact decide_eq_false hl
            obtain ⟨y, hy⟩ : ∃ y, L[j + 1]? = some y := ⟨_, List.getElem?_eq_getElem (by rw [← HN.out]; omega)⟩
            obtain ⟨g', o', e1, _, hc⟩ := H.out.lies.below HC4.out.2 (j + 1) y hy
            obtain ⟨rfl, rfl⟩ : g = g' ∧ o = o' := by simpa using e1
            have y0 : w4.cell? ⟨g, o + (j + 1) * 3, none⟩ = some (.string y.fr) := hc 0 _ rfl
            have hj2 : (j : Int) + 1 < (n : Int) := by omega
            have HV : Hid (cb = lessK k y.fr) := by show _ = _; rw [HCB.out, h1, ← HN.out, getD_of hy]; simp [hl]
            have HGT := Lib.hid (gtK y.fr k)
            clear h1 hl hc hy e1
            subst hlbt
            go_wp2_with fail
            go_meet
            exact ⟨by rw [HV.out, ← HGT.out], rfl⟩
      case rest =>
        obtain ⟨rfl, rfl⟩ := hcut
        cases cb with
        | false =>
          have HNX : Hid (CutRow w (cutP k L (j + 1)) v' w4) := by
            show CutRow _ _ _ _
            rw [cutP_succ, HPC.out]
            exact HC4.out
          go_wp2_with fail
          exact ⟨⟨j + 1, by omega, by simp, HNX⟩, by simp [intOf]; omega⟩
        | true =>
          obtain ⟨w5, hw5⟩ : ∃ w5, w5 = w4.alloc (.cells #[.string x.fr, .int .i64 x.sh, .int .i64 x.ep] 35) := ⟨_, rfl⟩
          obtain ⟨xb, hxb⟩ : ∃ xb, xb = w4.heap.size := ⟨_, rfl⟩
          have hb5 : Below w4.heap.size w4 w5 := by rw [hw5]; exact (Below.refl _ w4).alloc (Nat.le_refl _) _
          have hr5 : w5.heap[xb]? = some (.cells #[.string x.fr, .int .i64 x.sh, .int .i64 x.ep] 35 (0, 0)) := by rw [hw5, hxb]; exact heap_alloc_new w4 _
          go_upto_region 9 with fail
          rw [← hw5, ← hxb]
          obtain ⟨w6, hw6⟩ : ∃ w6, w6 = w5.setCell ⟨xb, 0, none⟩ (.string k) := ⟨_, rfl⟩
          have x0 : w5.cell? ⟨xb, 0, none⟩ = some (.string x.fr) := by rw [cell_of_row _ _ _ _ _ _ hr5]; rfl
          have fz : ∀ i, w5.frozen? ⟨xb, i, none⟩ = false := fun i => by simp [World.frozen?, hr5]
          have lx := lt_of_heap hr5
          have hr6 : w6.heap[xb]? = some (.cells #[.string k, .int .i64 x.sh, .int .i64 x.ep] 35 (0, 0)) := by rw [hw6]; exact heap_setCell_same _ xb 0 _ _ _ hr5
          have hb6 : Below w4.heap.size w4 w6 := by
            rw [hw6]
            have := (Wrote.of_below (S := []) hb5).setCell (p := ⟨xb, 0, none⟩) (.inr (by show _ ≤ xb; rw [hxb]; exact Nat.le_refl _)) (.string k)
            exact this.below (Nat.le_refl _) (by simp)
          have HR6 := Lib.hid hr6
          have HC6 := Lib.hid (HC4.out.below hb6)
          have HB6 := Lib.hid hb6
          clear hb5 hr5 hb6 hr6 hw5 hxb d0 d1 d2 lg
          go_upto_region 10 with fail
          rw [← hw6]
          clear hw6 x0 fz lx
          have x0 : w6.cell? ⟨xb, 0, none⟩ = some (.string k) := by rw [cell_of_row _ _ _ _ _ _ HR6.out]; rfl
          have x1 : w6.cell? ⟨xb, 1, none⟩ = some (.int .i64 x.sh) := by rw [cell_of_row _ _ _ _ _ _ HR6.out]; rfl
          have x2 : w6.cell? ⟨xb, 2, none⟩ = some (.int .i64 x.ep) := by rw [cell_of_row _ _ _ _ _ _ HR6.out]; rfl
          have lx := lt_of_heap HR6.out
          go_wp2_with (at_builtin; refine append_src rfl _ _ rfl w.heap.size _ (cutP k L j ++ [x]) [⟨k, x.sh, x.ep⟩] rfl (HC6.out.1.alloc _) _ 1 rfl (src_one (x := ⟨k, x.sh, x.ep⟩) (heap_alloc_new w6 _)) (by have := HLN.out; simp; omega) (by simp) (by have := HC6.out.2.size; simp; omega) ?_)
          intro v2 w7 hown hgrow
          have HNX : Hid (CutRow w (cutP k L (j + 1)) v2 w7) := by
            show CutRow _ _ _ _
            rw [cutP_succ, HPC.out]
            have := cutRow_step (x := ⟨k, x.sh, x.ep⟩) HC6.out ((Below.refl _ w6).alloc (Nat.le_refl _) _) (by rw [List.length_append, List.flatMap_append]; simpa using hown) hgrow
            rw [List.append_assoc] at this
            exact this
          clear hown hgrow x0 x1 x2 lx
          go_wp2_with fail
          exact ⟨⟨j + 1, by omega, by simp, HNX⟩, by simp [intOf]; omega⟩
    · obtain rfl : j = n := by omega
      go_wp2_with fail
      go_ret
      have h1 := HC.out
      rw [HN.out, cutP_all] at h1
      exact ⟨_, rfl, h1.1, h1.2⟩
end Go.Proofs.YtemgcliihbjjiaaDoor
