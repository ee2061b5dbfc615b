/- The model: the live question. -/
import Derived.Test.YtacdnpacpndekaaArgs
namespace Go.Proofs.Ytacdnpacpndekaa
open Go.RowKit Go.My Go.My.Model Go.Deep
def sK : ByteArray := ⟨#[107]⟩
def sX : ByteArray := ⟨#[120]⟩
def sY : ByteArray := ⟨#[121]⟩
def headT : List Tx := [⟨0, 0, [], [(sK, sX)]⟩, ⟨0, 0, [], [(sK, sY)]⟩, ⟨0, 0, [(sK, 1)], []⟩]
theorem head_state : stateOf (flat headT headT.length) = [(sK, ⟨sK, sY, 2⟩)] := by rfl
theorem head_run : runL (stateOf (flat headT headT.length)) = [⟨sK, sY, 2⟩] := by
  rw [head_state]
  simp [runL, sortS, aget]
theorem head_at : atEnt (flat headT headT.length) sK 1 = ⟨sK, sX, 1⟩ ∧ atOk (flat headT headT.length) sK 1 = true := by constructor <;> rfl
theorem head_fits : fitsN headT = 2 := by rfl
def headW (w : World) : World := (((w.alloc (Obj.cells #[Value.string { data := #[107] }, Value.string { data := #[120] }] 41)).alloc
            (Obj.cells #[Value.string { data := #[107] }, Value.string { data := #[121] }] 41)).alloc
        (Obj.cells #[Value.string { data := #[107] }, Value.int IntKind.i64 1] 43)).alloc
    (Obj.cells
      #[Value.int IntKind.i64 0, Value.int IntKind.i64 0, Value.slice none 0 0,
        Value.slice (some { block := w.heap.size, off := 0 }) 1 1, Value.int IntKind.i64 0, Value.int IntKind.i64 0,
        Value.slice none 0 0, Value.slice (some { block := w.heap.size + 1, off := 0 }) 1 1, Value.int IntKind.i64 0,
        Value.int IntKind.i64 0, Value.slice (some { block := w.heap.size + 1 + 1, off := 0 }) 1 1,
        Value.slice none 0 0]
      39)
theorem headW_below (w : World) : Below w.heap.size w (headW w) := (((((Below.refl _ w).alloc (Nat.le_refl _) _).alloc (by simp) _).alloc (by simp; omega) _).alloc (by simp; omega) _)
theorem headW_size (w : World) : (headW w).heap.size = w.heap.size + 4 := by simp [headW]
theorem headW_ord (w : World) : OrdFar [] (headW w) (some ⟨w.heap.size + 1 + 1 + 1, 0, none⟩) headT := by
  have b0 : (headW w).heap[w.heap.size]? = some (.cells #[Value.string sK, Value.string sX] 41 (0, 0)) := (Below.heap_alloc _ _ _ (by simp; omega)).trans ((Below.heap_alloc _ _ _ (by simp; omega)).trans ((Below.heap_alloc _ _ _ (by simp)).trans (heap_alloc_new w _)))
  have b1 : (headW w).heap[w.heap.size + 1]? = some (.cells #[Value.string sK, Value.string sY] 41 (0, 0)) := (Below.heap_alloc _ _ _ (by simp)).trans ((Below.heap_alloc _ _ _ (by simp)).trans (by show _ = some (Obj.cells #[Value.string ⟨#[107]⟩, Value.string ⟨#[121]⟩] 41); simpa using heap_alloc_new (w.alloc _) _))
  have b2 : (headW w).heap[w.heap.size + 1 + 1]? = some (.cells #[Value.string sK, .int .i64 1] 43 (0, 0)) := (Below.heap_alloc _ _ _ (by simp)).trans (by show _ = some (Obj.cells #[Value.string ⟨#[107]⟩, .int .i64 1] 43); simpa using heap_alloc_new ((w.alloc _).alloc _) _)
  have b3 : (headW w).heap[w.heap.size + 1 + 1 + 1]? = some (.cells #[Value.int IntKind.i64 0, Value.int IntKind.i64 0, Value.slice none 0 0,
        Value.slice (some { block := w.heap.size, off := 0 }) 1 1, Value.int IntKind.i64 0, Value.int IntKind.i64 0,
        Value.slice none 0 0, Value.slice (some { block := w.heap.size + 1, off := 0 }) 1 1, Value.int IntKind.i64 0,
        Value.int IntKind.i64 0, Value.slice (some { block := w.heap.size + 1 + 1, off := 0 }) 1 1,
        Value.slice none 0 0] 39 (0, 0)) := by unfold headW; simpa using heap_alloc_new (((w.alloc _).alloc _).alloc _) _
  have hs := headW_size w
  generalize headW w = W at b0 b1 b2 b3 hs
  have hm : sK.size ≤ maxLen := by decide
  have wr : ∀ g b (z : ByteArray), W.heap[g]? = some (.cells #[Value.string sK, Value.string z] 41 (0, 0)) → g < W.heap.size → b = g → ∀ (j : Nat) x, [((sK, z) : Wri)][j]? = some x → ∃ g' o', some (⟨b, 0, none⟩ : Addr) = some ⟨g', o', none⟩ ∧ g' < W.heap.size ∧ g' ∉ ([] : List Nat) ∧ W.cell? ⟨g', o' + j * 2, none⟩ = some (.string x.1) ∧ W.cell? ⟨g', o' + j * 2 + 1, none⟩ = some (.string x.2) ∧ x.1.size ≤ maxLen := by
    rintro g b z hg hlt rfl j x hj
    match j, hj with
    | 0, hj =>
      obtain rfl := Option.some.inj hj
      exact ⟨b, 0, rfl, hlt, by simp, by rw [cell_of_row _ _ _ _ _ _ hg]; rfl, by rw [cell_of_row _ _ _ _ _ _ hg]; rfl, hm⟩
  intro i t hi
  refine ⟨w.heap.size + 1 + 1 + 1, 0, rfl, by omega, by simp, ?_, ?_, ?_, ?_⟩
  · match i, hi with
    | 0, hi => obtain rfl := Option.some.inj hi; rw [cell_of_row _ _ _ _ _ _ b3]; rfl
    | 1, hi => obtain rfl := Option.some.inj hi; rw [cell_of_row _ _ _ _ _ _ b3]; rfl
    | 2, hi => obtain rfl := Option.some.inj hi; rw [cell_of_row _ _ _ _ _ _ b3]; rfl
  · match i, hi with
    | 0, hi => obtain rfl := Option.some.inj hi; rw [cell_of_row _ _ _ _ _ _ b3]; rfl
    | 1, hi => obtain rfl := Option.some.inj hi; rw [cell_of_row _ _ _ _ _ _ b3]; rfl
    | 2, hi => obtain rfl := Option.some.inj hi; rw [cell_of_row _ _ _ _ _ _ b3]; rfl
  · match i, hi with
    | 0, hi => obtain rfl := Option.some.inj hi; exact ⟨none, 0, by rw [cell_of_row _ _ _ _ _ _ b3]; rfl, fun j r hj => by cases hj⟩
    | 1, hi => obtain rfl := Option.some.inj hi; exact ⟨none, 0, by rw [cell_of_row _ _ _ _ _ _ b3]; rfl, fun j r hj => by cases hj⟩
    | 2, hi =>
      obtain rfl := Option.some.inj hi
      refine ⟨some ⟨w.heap.size + 1 + 1, 0, none⟩, 1, by rw [cell_of_row _ _ _ _ _ _ b3]; rfl, fun j r hj => ?_⟩
      match j, hj with
      | 0, hj =>
        obtain rfl := Option.some.inj hj
        exact ⟨w.heap.size + 1 + 1, 0, rfl, by omega, by simp, by rw [cell_of_row _ _ _ _ _ _ b2]; rfl, by rw [cell_of_row _ _ _ _ _ _ b2]; rfl⟩
  · match i, hi with
    | 0, hi => obtain rfl := Option.some.inj hi; exact ⟨some ⟨w.heap.size, 0, none⟩, 1, by rw [cell_of_row _ _ _ _ _ _ b3]; rfl, wr _ _ _ b0 (by omega) rfl⟩
    | 1, hi => obtain rfl := Option.some.inj hi; exact ⟨some ⟨w.heap.size + 1, 0, none⟩, 1, by rw [cell_of_row _ _ _ _ _ _ b3]; rfl, wr _ _ _ b1 (by omega) rfl⟩
    | 2, hi => obtain rfl := Option.some.inj hi; exact ⟨none, 0, by rw [cell_of_row _ _ _ _ _ _ b3]; rfl, fun j r hj => by cases hj⟩
set_option maxRecDepth 100000 in
set_option maxHeartbeats 1600000 in
theorem head_any (w : World) : Calls Try.prog 8 #[] w fun e w' => e = .returned (.bool true) ∧ Below w.heap.size w w' := by
  have HRUN : Hid (∀ W, Below (headW w).heap.size (headW w) W → Calls Try.prog 13 #[.slice (some ⟨w.heap.size + 1 + 1 + 1, 0, none⟩) 3 3] W (RunDone W (stateOf (flat headT headT.length)))) := fun W hb =>
    run_any _ 3 headT W (far_below (headW_ord w) hb (by simp)) (by decide) (by decide)
  have HAT : Hid (∀ W, Below (headW w).heap.size (headW w) W → Calls Try.prog 10 #[.slice (some ⟨w.heap.size + 1 + 1 + 1, 0, none⟩) 3 3, .string ⟨#[107]⟩, .int .i64 1] W (AtLeft W headT sK 1)) := fun W hb =>
    at_any _ 3 headT sK 1 W (far_below (headW_ord w) hb (by simp)) (by decide) (by decide)
  have HFIT : Hid (∀ W, Below (headW w).heap.size (headW w) W → Calls Try.prog 15 #[.slice (some ⟨w.heap.size + 1 + 1 + 1, 0, none⟩) 3 3] W (FitsLeft W headT)) := fun W hb =>
    fits_any _ 3 headT W (far_below (headW_ord w) hb (by simp)) (by decide) (by decide) (by decide)
  have HS := Lib.hid (headW_size w)
  have HB := Lib.hid (headW_below w)
  have HW : Hid (∃ W, W = headW w) := ⟨_, rfl⟩
  go_enter Try.func8, Try.ntmps8
  go_wp2_with fail
  show Calls Try.prog 13 _ (headW w) _
  refine (HRUN.out _ (Below.refl _ _)).mono ?_
  rintro e w1 ⟨v, rfl, hrow, hb1⟩
  rw [head_run] at hrow
  obtain ⟨a, cap, rfl, hpos⟩ := row_form hrow
  obtain ⟨g, rfl, hg1, hg2⟩ := hpos (by decide)
  have r1 : w1.cell? ⟨g, 1, none⟩ = some (.string ⟨#[121]⟩) := by rw [hrow.cellAt 1 (by simp)]; rfl
  have r2 : w1.cell? ⟨g, 2, none⟩ = some (.int .i64 2) := by rw [hrow.cellAt 2 (by simp)]; rfl
  have hlen : [(⟨sK, sY, 2⟩ : Ent)].length = 1 := rfl
  rw [hlen]
  clear hpos hrow hlen
  have HB1 := Lib.hid hb1
  go_wp2_with fail
  refine (HAT.out _ hb1).mono ?_
  rintro e w2 ⟨rfl, hb2⟩
  rw [head_at.1, head_at.2]
  have q1 : w2.cell? ⟨g, 1, none⟩ = some (.string ⟨#[121]⟩) := (hb2.cell (p := ⟨g, 1, none⟩) hg2).trans r1
  have q2 : w2.cell? ⟨g, 2, none⟩ = some (.int .i64 2) := (hb2.cell (p := ⟨g, 2, none⟩) hg2).trans r2
  have hg3 : g < w2.heap.size := Nat.lt_of_lt_of_le hg2 hb2.size
  have HB2 : Hid (Below (headW w).heap.size (headW w) w2) := HB1.out.trans (hb2.mono HB1.out.size)
  have hent : entV ⟨sK, sX, 1⟩ = .agg #[.string ⟨#[107]⟩, .string ⟨#[120]⟩, .int .i64 1] := rfl
  rw [hent]
  clear hb1 hb2 r1 r2 hg2 hent
  go_wp2_with fail
  refine (HFIT.out _ (HB2.out.alloc HB2.out.size _)).mono ?_
  rintro e w3 ⟨rfl, hb3⟩
  rw [head_fits]
  have HB3 : Hid (Below w.heap.size w w3) := by
    have h1 := HB.out.trans (HB2.out.mono HB.out.size)
    have h2 := (h1.alloc h1.size (.cells #[Value.string { data := #[107] }, Value.string { data := #[120] }, Value.int IntKind.i64 1] 26))
    exact h2.trans (hb3.mono h2.size)
  clear hb3
  go_wp2_with fail
  go_ret
  exact ⟨rfl, HB3.out⟩
end Go.Proofs.Ytacdnpacpndekaa
