/- The model: each write by itself. -/
import Derived.Test.YtacdnpacpndekaaSame
namespace Go.Proofs.Ytacdnpacpndekaa
open Go.RowKit Go.My Go.My.Model Go.Deep
def oneT (x : Wri) : Tx := ⟨0, 0, [], [x]⟩
def txL (g : Nat) : List Value := [.int .i64 0, .int .i64 0, .slice none 0 0, .slice (some ⟨g, 0, none⟩) 1 1]
theorem tx_info : (Try.prog.info? 39).map (fun i => (i.zero, i.size, i.bytes)) = some (some (.agg #[.int .i64 0, .int .i64 0, .slice none 0 0, .slice none 0 0]), 4, 64) := by kernel_rfl
theorem flat_one (ds : List Wri) : flat (ds.map oneT) (ds.map oneT).length = ds := by
  unfold flat
  rw [List.take_of_length_le (Nat.le_refl _), List.flatMap_map]
  induction ds with
  | nil => rfl
  | cons x ds ih => rw [List.flatMap_cons, ih]; rfl
theorem fits_one (ds : List Wri) : fitsN (ds.map oneT) = ds.length := by
  have h := fits_all (T := ds.map oneT) fun j hj => by
    rw [okB_eq (List.getElem?_eq_getElem hj)]
    rw [List.getElem_map]
    rfl
  rw [h, List.length_map]
/-- What is built: a transaction for each write. -/
structure Built (w2 : World) (ds : List Wri) (v : Value) (wr : World) : Prop where
  row : ∃ G : List Nat, G.length = ds.length ∧ wr.ownsRow w2.heap.size 39 4 v ds.length (G.flatMap txL) ∧ ∀ (i : Nat) g x, G[i]? = some g → ds[i]? = some x → wr.heap[g]? = some (.cells #[.string x.1, .string x.2] 41 (0, 0)) ∧ w2.heap.size ≤ g
  below : Below w2.heap.size w2 wr
theorem Built.start (w2 : World) : Built w2 [] (.slice none 0 0) w2 := ⟨⟨[], rfl, World.ownsRow_nil _ _ _ _, fun i g x h => by cases h⟩, Below.refl _ _⟩
theorem Built.append {w2 wr w1 : World} {ds : List Wri} {v v1 : Value} {x : Wri} {o : Obj} (h : Built w2 ds v wr) {G : List Nat} (hG : G.length = ds.length) (hrow : wr.ownsRow w2.heap.size 39 4 v ds.length (G.flatMap txL))
    (hin : ∀ (i : Nat) g x, G[i]? = some g → ds[i]? = some x → wr.heap[g]? = some (.cells #[.string x.1, .string x.2] 41 (0, 0)) ∧ w2.heap.size ≤ g)
    (hown : w1.ownsRow w2.heap.size 39 4 v1 (ds.length + 1) (G.flatMap txL ++ txL wr.heap.size)) (hg : ((wr.alloc (.cells #[.string x.1, .string x.2] 41)).alloc o).grownBy w1 v.ownBlock) : Built w2 (ds ++ [x]) v1 w1 := by
  have hb : Below wr.heap.size wr ((wr.alloc (.cells #[.string x.1, .string x.2] 41)).alloc o) := ((Below.refl _ wr).alloc (Nat.le_refl _) _).alloc (by simp) _
  have hW : Wrote v.ownBlock.toList ((wr.alloc (.cells #[.string x.1, .string x.2] 41)).alloc o) w1 := Wrote.of_grown hg
  have hnew : ((wr.alloc (.cells #[.string x.1, .string x.2] 41)).alloc o).heap[wr.heap.size]? = some (.cells #[.string x.1, .string x.2] 41 (0, 0)) := (Below.heap_alloc _ _ _ (by simp)).trans (heap_alloc_new wr _)
  have far : ∀ g y, wr.heap[g]? = some (.cells y 41 (0, 0)) → g ∉ v.ownBlock.toList := fun g y hy hm => by
    simp only [Option.mem_toList] at hm
    obtain ⟨_, cur, hc⟩ := row_block hrow hm
    rw [hy] at hc
    cases hc
  refine ⟨⟨G ++ [wr.heap.size], by simp [hG], ?_, fun i g y hi hj => ?_⟩, ?_⟩
  · rw [List.flatMap_append, List.length_append]
    simpa using hown
  · rcases Nat.lt_or_ge i G.length with hlt | hge
    · rw [List.getElem?_append_left hlt] at hi
      rw [List.getElem?_append_left (by omega)] at hj
      obtain ⟨h1, h2⟩ := hin i g y hi hj
      have h3 := lt_of_heap h1
      exact ⟨hW.heap ((hb.block _ h3).trans h1) (far _ _ h1), h2⟩
    · have hi' : i = G.length := by
        have := (List.getElem?_eq_some_iff.1 hi).1
        simp at this
        omega
      subst hi'
      simp at hi
      rw [hG] at hj
      simp at hj
      subst hi; subst hj
      refine ⟨hW.heap hnew fun hm => ?_, h.below.size⟩
      simp only [Option.mem_toList] at hm
      obtain ⟨_, cur, hc⟩ := row_block hrow hm
      have := lt_of_heap hc
      omega
  · refine (h.below.trans (hb.mono h.below.size)).trans (hW.below (Nat.le_trans h.below.size hb.size) fun g hm => ?_)
    simp only [Option.mem_toList] at hm
    exact (row_block hrow hm).1
theorem Built.ord {w2 wr : World} {ds : List Wri} {a : Option Addr} {n cap : Nat} (h : Built w2 ds (.slice a n cap) wr) (hn : n = ds.length) (hm : ∀ x ∈ ds, x.1.size ≤ maxLen) : OrdFar [] wr a (ds.map oneT) := by
  obtain ⟨G, hG, hrow, hin⟩ := h.row
  intro i t hi
  rw [List.getElem?_map] at hi
  cases hx : ds[i]? with
  | none => rw [hx] at hi; cases hi
  | some x =>
    rw [hx] at hi
    obtain rfl := Option.some.inj hi
    have hlt := (List.getElem?_eq_some_iff.1 hx).1
    obtain ⟨b, rfl, hb1, hb2⟩ := row_pos hrow (by omega)
    obtain ⟨g, hg⟩ : ∃ g, G[i]? = some g := ⟨_, List.getElem?_eq_getElem (by omega)⟩
    obtain ⟨h1, h2⟩ := hin i g x hg hx
    subst hn
    have hc := fun j hj => row_cell hrow (fun _ => rfl) hG.symm hg (j := j) hj
    refine ⟨b, 0, rfl, hb2, by simp, ?_, ?_, ⟨none, 0, ?_, fun j r hj => by cases hj⟩, ⟨some ⟨g, 0, none⟩, 1, ?_, fun j y hj => ?_⟩⟩
    · rw [Nat.zero_add]; exact hc 0 (by omega)
    · rw [Nat.zero_add]; exact hc 1 (by omega)
    · rw [Nat.zero_add]; exact hc 2 (by omega)
    · rw [Nat.zero_add]; exact hc 3 (by omega)
    · match j, hj with
      | 0, hj =>
        obtain rfl := Option.some.inj hj
        exact ⟨g, 0, rfl, lt_of_heap h1, by simp, by rw [cell_of_row _ _ _ _ _ _ h1]; rfl, by rw [cell_of_row _ _ _ _ _ _ h1]; rfl, hm x (List.mem_of_getElem? hx)⟩
end Go.Proofs.Ytacdnpacpndekaa
