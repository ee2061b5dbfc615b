/- Book in memory: New, Many, wrong, Text. -/
import Derived.Test.YtlepjjcnlcnnfaaDoorBkAt
import Derived.Lib.ConvBytes
import Derived.Lib.SlBytesRow
namespace Go.Proofs.YtlepjjcnlcnnfaaDoor.Book
open Go.RowKit Go.My

def bs (s : ByteArray) : Value := .string s
def bn (n : Nat) : Value := .int .i64 (n : Int)
theorem kStr : KeyOk Tryd.prog 9 bs := key_string Tryd.underlying9
theorem zero3 (w : World) : (zeroValue 3).run Tryd.prog w = .ok (.int .i64 0) w := by kernel_rfl

/-- The places of some texts. -/
def placed (ts : List ByteArray) : List (ByteArray × Nat) := ts.zipIdx

structure BookAt (w : World) (base b m : Nat) (v : Value) (ts : List ByteArray) : Prop where
  blk : w.heap[b]? = some (.cells #[v, .map (some m)] 49 (0, 0))
  map : MapAt w m bs bn (placed ts)
  row : w.ownsRow base 9 1 v ts.length (ts.map bs)
  bb : base ≤ b
  bm : base ≤ m
  nb : ∀ g, v.ownBlock = some g → g ≠ b ∧ g ≠ m

variable {w w' : World} {base b m : Nat} {v : Value} {ts : List ByteArray}
theorem BookAt.c0 (h : BookAt w base b m v ts) : w.cell? ⟨b, 0, none⟩ = some v := by rw [cell_of_row w b 0 _ _ _ h.blk]; rfl
theorem BookAt.c1 (h : BookAt w base b m v ts) : w.cell? ⟨b, 1, none⟩ = some (.map (some m)) := by rw [cell_of_row w b 1 _ _ _ h.blk]; rfl
theorem BookAt.ne (h : BookAt w base b m v ts) : m ≠ b := h.map.ne_cells h.blk
theorem BookAt.below (h : BookAt w base b m v ts) (hb : Below w.heap.size w w') : BookAt w' base b m v ts :=
  ⟨(hb.block _ (lt_of_heap h.blk)).trans h.blk, h.map.keep (hb.block _ h.map.lt), h.row.kept (row := none) ⟨hb.os, hb.tape, hb.output, hb.size, fun k hk _ => hb.block k hk⟩ (by cases v.ownBlock <;> simp), h.bb, h.bm, h.nb⟩
theorem row_open {w : World} {base : Nat} {e : TypeId} {v : Value} {n : Nat} {xs : List Value} (h : w.ownsRow base e 1 v n xs) :
    ∃ a cap, v = .slice a n cap ∧ ∀ i x, xs[i]? = some x → ∃ g, a = some ⟨g, 0, none⟩ ∧ g < w.heap.size ∧ w.cell? ⟨g, i, none⟩ = some x := by
  obtain ⟨hl, h⟩ := h
  rcases h with ⟨rfl, rfl⟩ | ⟨g, cap, cur, rfl, _, hg, hn, _, hc, ht⟩
  · refine ⟨none, 0, rfl, fun i x hx => ?_⟩
    have : i < xs.length := (List.getElem?_eq_some_iff.1 hx).1
    omega
  · refine ⟨some ⟨g, 0, none⟩, cap, rfl, fun i x hx => ⟨g, rfl, (Array.getElem?_eq_some_iff.1 hg).1, ?_⟩⟩
    have hi : i < xs.length := (List.getElem?_eq_some_iff.1 hx).1
    rw [cell_of_row w g i _ _ _ hg]
    rw [← ht, List.getElem?_take] at hx
    split at hx
    · simpa using hx
    · cases hx

set_option maxRecDepth 100000 in
theorem new_any (w : World) : Calls Tryd.prog 6 #[] w fun e w' => ∃ b m v, e = .returned (.pointer (some ⟨b, 0, none⟩)) ∧ BookAt w' w.heap.size b m v [] ∧ Below w.heap.size w w' := by
  have hmm := @run_makeMap Tryd.prog
  go_enter Tryd.func6, Tryd.ntmps6
  go_wp2
  go_ret
  refine ⟨w.heap.size + 1, w.heap.size, .slice none 0 0, rfl, ⟨?_, ?_, World.ownsRow_nil _ _ _ _, by omega, Nat.le_refl _, fun g hg => by cases hg⟩, ?_⟩
  · have := heap_alloc_new (w.alloc (.map #[] 0)) (.cells #[.slice none 0 0, .map (some w.heap.size)] 49)
    simpa using this
  · exact (MapAt.new w bs bn).alloc _
  · exact ((Below.refl _ w).alloc (Nat.le_refl _) _).alloc (by simp) _

set_option maxRecDepth 100000 in
theorem wrong_any (h : BookAt w base b m v ts) (c : Int) (hc : (c == 0) = false) : Calls Tryd.prog 57 #[.pointer (some ⟨b, 0, none⟩), .int .i64 c] w fun e w' => e = .returned (wrapV (ts.length : Nat) c) ∧ Below w.heap.size w w' := by
  obtain ⟨a, cap, rfl, _⟩ := row_open h.row
  have c0 := h.c0
  clear h
  go_enter Tryd.func57, Tryd.ntmps57
  go_wp2_with fail
  refine wp_region_quiet_lit (by kernel_rfl) (by kernel_rfl) ?_
  repeat (quiet_step ((first | (go_at_call 30; exact Calls.quiet_of_same ((of_any c _ hc).mono fun _ _ h => ⟨h.1, h.2.symm⟩)) | (go_at_call 29; exact Calls.quiet_of_same ((wrap_any c _ _ _).mono fun _ _ h => ⟨h.1, h.2.symm⟩)))))
  refine wpQuiet_nil ?_
  rintro _ ⟨nq, rfl⟩
  go_wp2
  go_ret
  exact ⟨rfl, ⟨rfl, rfl, rfl, by simp, fun k hk => rfl⟩⟩
end Go.Proofs.YtlepjjcnlcnnfaaDoor.Book
