/- A judge: the live question. -/
import Derived.Test.YtpcmkifgfokdpaaJlaws
namespace Go.Proofs.Ytpcmkifgfokdpaa
open Go.RowKit Go.My Go.My.Model Go.Deep
theorem lies_cons {α : Type} {w : World} {g c : Nat} {f : α → List Value} {l : List α} (hg : g < w.heap.size) (h : ∀ (i : Nat) x, l[i]? = some x → ∀ (j : Nat) v, (f x)[j]? = some v → w.cell? ⟨g, i * c + j, none⟩ = some v) : Lies w (some ⟨g, 0, none⟩) c f l := fun i x hi =>
  ⟨g, 0, rfl, hg, fun j v hj => by rw [Nat.zero_add]; exact h i x hi j v hj⟩
theorem row_cells {w : World} {g : Nat} {cs : Array Value} {t : TypeId} (h : w.heap[g]? = some (.cells cs t (0, 0))) (i : Nat) : w.cell? ⟨g, i, none⟩ = cs[i]? := cell_of_row _ _ _ _ _ _ h
theorem lies_nil {α : Type} (w : World) (a : Option Addr) (c : Nat) (f : α → List Value) : Lies w a c f [] := fun i x h => by simp at h
theorem seen_of {w : World} {p : Nat} {r : Ran} (h : w.heap[p]? = some (.cells #[.int .i64 r.num, .int .i64 r.digest] 47 (0, 0))) : SeenIn w (seenOf r ⟨some ⟨p, 0, none⟩, 1, 1⟩) := by
  refine ⟨rfl, rfl, rfl, rfl, rfl, lies_cons (lt_of_heap h) fun i x hi j v hj => ?_, lies_nil _ _ _ _, lies_nil _ _ _ _, lies_nil _ _ _ _, lies_nil _ _ _ _⟩
  match i, hi with
  | 0, hi =>
    obtain rfl : r = x := by simpa [seenOf] using hi
    rw [row_cells h]
    simp only [Nat.zero_mul, Nat.zero_add]
    simpa [ranL] using hj
  | i + 1, hi => simp [seenOf] at hi
theorem few_of (r : Ran) (a : Sl) : Few (seenOf r a) := ⟨by simp [seenOf], by simp [seenOf], by simp [seenOf], by simp [seenOf], by simp [seenOf]⟩
theorem head_call (w : World) (gb sb p1 p2 : Nat) (g h : Int) (hg : w.heap[gb]? = some (.cells #[.int .i64 g, .int .i64 h] 3 (0, 0))) (hs : w.heap[sb]? = some (.cells #[.int .i64 0, .bool false, .int .i64 0, .int .i64 0, .int .i64 0, .slice (some ⟨p1, 0, none⟩) 1 1, .slice none 0 0, .slice none 0 0, .slice none 0 0, .slice none 0 0, .slice none 0 0, .slice none 0 0, .int .i64 0, .bool false, .int .i64 0, .int .i64 0, .int .i64 0, .slice (some ⟨p2, 0, none⟩) 1 1, .slice none 0 0, .slice none 0 0, .slice none 0 0, .slice none 0 0, .slice none 0 0, .slice none 0 0] 41 (0, 0)))
    (h1 : w.heap[p1]? = some (.cells #[.int .i64 1, .int .i64 5] 47 (0, 0))) (h2 : w.heap[p2]? = some (.cells #[.int .i64 1, .int .i64 6] 47 (0, 0))) :
    Calls Try.prog 8 #[.agg #[.slice none 0 0, .slice (some ⟨gb, 0, none⟩) 2 2, .slice (some ⟨sb, 0, none⟩) 2 2]] w (FindLeft w (JudgeSpec [] (onesOf [g, h] [seenOf ⟨1, 5⟩ ⟨some ⟨p1, 0, none⟩, 1, 1⟩, seenOf ⟨1, 6⟩ ⟨some ⟨p2, 0, none⟩, 1, 1⟩]))) := by
  have k1 : SeenIn w (seenOf ⟨1, 5⟩ ⟨some ⟨p1, 0, none⟩, 1, 1⟩) := seen_of h1
  have k2 : SeenIn w (seenOf ⟨1, 6⟩ ⟨some ⟨p2, 0, none⟩, 1, 1⟩) := seen_of h2
  refine judge_8 [] [g, h] [seenOf ⟨1, 5⟩ ⟨some ⟨p1, 0, none⟩, 1, 1⟩, seenOf ⟨1, 6⟩ ⟨some ⟨p2, 0, none⟩, 1, 1⟩] w none (some ⟨gb, 0, none⟩) (some ⟨sb, 0, none⟩) 0 2 2 (fun i t hi => by simp at hi) ⟨by simp, fun t ht => by simp at ht, by simp [flat]⟩ (lies_cons (lt_of_heap hg) fun i x hi j v hj => ?_) (lies_cons (lt_of_heap hs) fun i x hi j v hj => ?_) (fun s hs => ?_) (by simp) (by simp)
  · rw [row_cells hg]
    have hj0 : j = 0 := by have := (List.getElem?_eq_some_iff.1 hj).1; simp [intL] at this; exact this
    subst hj0
    match i, hi with
    | 0, hi => obtain rfl : g = x := by simpa using hi
               simpa [intL] using hj
    | 1, hi => obtain rfl : h = x := by simpa using hi
               simpa [intL] using hj
    | i + 2, hi => simp at hi
  · rw [row_cells hs]
    match i, hi with
    | 0, hi =>
      have e : seenOf ⟨1, 5⟩ ⟨some ⟨p1, 0, none⟩, 1, 1⟩ = x := by simpa using hi
      subst e
      have hj12 : j < 12 := (List.getElem?_eq_some_iff.1 hj).1
      rw [Nat.zero_mul, Nat.zero_add, ← hj]
      match j, hj12 with
      | 0, _ => rfl
      | 1, _ => rfl
      | 2, _ => rfl
      | 3, _ => rfl
      | 4, _ => rfl
      | 5, _ => rfl
      | 6, _ => rfl
      | 7, _ => rfl
      | 8, _ => rfl
      | 9, _ => rfl
      | 10, _ => rfl
      | 11, _ => rfl
    | 1, hi =>
      have e : seenOf ⟨1, 6⟩ ⟨some ⟨p2, 0, none⟩, 1, 1⟩ = x := by simpa using hi
      subst e
      have hj12 : j < 12 := (List.getElem?_eq_some_iff.1 hj).1
      rw [Nat.one_mul, ← hj]
      match j, hj12 with
      | 0, _ => rfl
      | 1, _ => rfl
      | 2, _ => rfl
      | 3, _ => rfl
      | 4, _ => rfl
      | 5, _ => rfl
      | 6, _ => rfl
      | 7, _ => rfl
      | 8, _ => rfl
      | 9, _ => rfl
      | 10, _ => rfl
      | 11, _ => rfl
    | i + 2, hi => simp at hi
  · simp only [List.mem_cons, List.not_mem_nil, or_false] at hs
    rcases hs with rfl | rfl
    · exact ⟨k1, few_of _ _⟩
    · exact ⟨k2, few_of _ _⟩
set_option maxRecDepth 100000 in
set_option maxHeartbeats 3200000 in
theorem head_6 (w : World) : Calls Try.prog 6 #[] w (BoolLeft w true) := by
  go_enter Try.func6, Try.ntmps6
  go_wp2_with fail
  obtain ⟨W6, hW6⟩ : ∃ W6, W6 = ((((((w.alloc (.cells #[.int .i64 1, .int .i64 5] 47)).alloc (.cells #[.int .i64 0, .bool false, .int .i64 0, .int .i64 0, .int .i64 0, .slice (some ⟨w.heap.size, 0, none⟩) 1 1, .slice none 0 0, .slice none 0 0, .slice none 0 0, .slice none 0 0, .slice none 0 0, .slice none 0 0] 41)).alloc (.cells #[.int .i64 1, .int .i64 6] 47)).alloc (.cells #[.int .i64 0, .bool false, .int .i64 0, .int .i64 0, .int .i64 0, .slice (some ⟨w.heap.size + 1 + 1, 0, none⟩) 1 1, .slice none 0 0, .slice none 0 0, .slice none 0 0, .slice none 0 0, .slice none 0 0, .slice none 0 0] 41)).alloc (.cells #[.int .i64 1, .int .i64 1] 3)).alloc (.cells #[.int .i64 0, .bool false, .int .i64 0, .int .i64 0, .int .i64 0, .slice (some ⟨w.heap.size, 0, none⟩) 1 1, .slice none 0 0, .slice none 0 0, .slice none 0 0, .slice none 0 0, .slice none 0 0, .slice none 0 0, .int .i64 0, .bool false, .int .i64 0, .int .i64 0, .int .i64 0, .slice (some ⟨w.heap.size + 1 + 1, 0, none⟩) 1 1, .slice none 0 0, .slice none 0 0, .slice none 0 0, .slice none 0 0, .slice none 0 0, .slice none 0 0] 41)) := ⟨_, rfl⟩
  have H0 : Hid (W6.heap[w.heap.size]? = some (.cells #[.int .i64 1, .int .i64 5] 47 (0, 0))) := by show _ = _; rw [hW6]; exact ((Below.heap_alloc _ _ _ (by first | (simp; done) | (simp; omega))).trans ((Below.heap_alloc _ _ _ (by first | (simp; done) | (simp; omega))).trans ((Below.heap_alloc _ _ _ (by first | (simp; done) | (simp; omega))).trans ((Below.heap_alloc _ _ _ (by first | (simp; done) | (simp; omega))).trans ((Below.heap_alloc _ _ _ (by first | (simp; done) | (simp; omega))).trans (heap_alloc_new w _))))))
  have H1 : Hid (W6.heap[w.heap.size + 1]? = some (.cells #[.int .i64 0, .bool false, .int .i64 0, .int .i64 0, .int .i64 0, .slice (some ⟨w.heap.size, 0, none⟩) 1 1, .slice none 0 0, .slice none 0 0, .slice none 0 0, .slice none 0 0, .slice none 0 0, .slice none 0 0] 41 (0, 0))) := by show _ = _; rw [hW6]; exact ((Below.heap_alloc _ _ _ (by first | (simp; done) | (simp; omega))).trans ((Below.heap_alloc _ _ _ (by first | (simp; done) | (simp; omega))).trans ((Below.heap_alloc _ _ _ (by first | (simp; done) | (simp; omega))).trans ((Below.heap_alloc _ _ _ (by first | (simp; done) | (simp; omega))).trans (by simpa using heap_alloc_new (w.alloc (.cells #[.int .i64 1, .int .i64 5] 47)) (.cells #[.int .i64 0, .bool false, .int .i64 0, .int .i64 0, .int .i64 0, .slice (some ⟨w.heap.size, 0, none⟩) 1 1, .slice none 0 0, .slice none 0 0, .slice none 0 0, .slice none 0 0, .slice none 0 0, .slice none 0 0] 41))))))
  have H2 : Hid (W6.heap[w.heap.size + 1 + 1]? = some (.cells #[.int .i64 1, .int .i64 6] 47 (0, 0))) := by show _ = _; rw [hW6]; exact ((Below.heap_alloc _ _ _ (by first | (simp; done) | (simp; omega))).trans ((Below.heap_alloc _ _ _ (by first | (simp; done) | (simp; omega))).trans ((Below.heap_alloc _ _ _ (by first | (simp; done) | (simp; omega))).trans (by simpa using heap_alloc_new ((w.alloc (.cells #[.int .i64 1, .int .i64 5] 47)).alloc (.cells #[.int .i64 0, .bool false, .int .i64 0, .int .i64 0, .int .i64 0, .slice (some ⟨w.heap.size, 0, none⟩) 1 1, .slice none 0 0, .slice none 0 0, .slice none 0 0, .slice none 0 0, .slice none 0 0, .slice none 0 0] 41)) (.cells #[.int .i64 1, .int .i64 6] 47)))))
  have H3 : Hid (W6.heap[w.heap.size + 1 + 1 + 1]? = some (.cells #[.int .i64 0, .bool false, .int .i64 0, .int .i64 0, .int .i64 0, .slice (some ⟨w.heap.size + 1 + 1, 0, none⟩) 1 1, .slice none 0 0, .slice none 0 0, .slice none 0 0, .slice none 0 0, .slice none 0 0, .slice none 0 0] 41 (0, 0))) := by show _ = _; rw [hW6]; exact ((Below.heap_alloc _ _ _ (by first | (simp; done) | (simp; omega))).trans ((Below.heap_alloc _ _ _ (by first | (simp; done) | (simp; omega))).trans (by simpa using heap_alloc_new (((w.alloc (.cells #[.int .i64 1, .int .i64 5] 47)).alloc (.cells #[.int .i64 0, .bool false, .int .i64 0, .int .i64 0, .int .i64 0, .slice (some ⟨w.heap.size, 0, none⟩) 1 1, .slice none 0 0, .slice none 0 0, .slice none 0 0, .slice none 0 0, .slice none 0 0, .slice none 0 0] 41)).alloc (.cells #[.int .i64 1, .int .i64 6] 47)) (.cells #[.int .i64 0, .bool false, .int .i64 0, .int .i64 0, .int .i64 0, .slice (some ⟨w.heap.size + 1 + 1, 0, none⟩) 1 1, .slice none 0 0, .slice none 0 0, .slice none 0 0, .slice none 0 0, .slice none 0 0, .slice none 0 0] 41))))
  have H4 : Hid (W6.heap[w.heap.size + 1 + 1 + 1 + 1]? = some (.cells #[.int .i64 1, .int .i64 1] 3 (0, 0))) := by show _ = _; rw [hW6]; exact ((Below.heap_alloc _ _ _ (by first | (simp; done) | (simp; omega))).trans (by simpa using heap_alloc_new ((((w.alloc (.cells #[.int .i64 1, .int .i64 5] 47)).alloc (.cells #[.int .i64 0, .bool false, .int .i64 0, .int .i64 0, .int .i64 0, .slice (some ⟨w.heap.size, 0, none⟩) 1 1, .slice none 0 0, .slice none 0 0, .slice none 0 0, .slice none 0 0, .slice none 0 0, .slice none 0 0] 41)).alloc (.cells #[.int .i64 1, .int .i64 6] 47)).alloc (.cells #[.int .i64 0, .bool false, .int .i64 0, .int .i64 0, .int .i64 0, .slice (some ⟨w.heap.size + 1 + 1, 0, none⟩) 1 1, .slice none 0 0, .slice none 0 0, .slice none 0 0, .slice none 0 0, .slice none 0 0, .slice none 0 0] 41)) (.cells #[.int .i64 1, .int .i64 1] 3)))
  have H5 : Hid (W6.heap[w.heap.size + 1 + 1 + 1 + 1 + 1]? = some (.cells #[.int .i64 0, .bool false, .int .i64 0, .int .i64 0, .int .i64 0, .slice (some ⟨w.heap.size, 0, none⟩) 1 1, .slice none 0 0, .slice none 0 0, .slice none 0 0, .slice none 0 0, .slice none 0 0, .slice none 0 0, .int .i64 0, .bool false, .int .i64 0, .int .i64 0, .int .i64 0, .slice (some ⟨w.heap.size + 1 + 1, 0, none⟩) 1 1, .slice none 0 0, .slice none 0 0, .slice none 0 0, .slice none 0 0, .slice none 0 0, .slice none 0 0] 41 (0, 0))) := by show _ = _; rw [hW6]; exact (by simpa using heap_alloc_new (((((w.alloc (.cells #[.int .i64 1, .int .i64 5] 47)).alloc (.cells #[.int .i64 0, .bool false, .int .i64 0, .int .i64 0, .int .i64 0, .slice (some ⟨w.heap.size, 0, none⟩) 1 1, .slice none 0 0, .slice none 0 0, .slice none 0 0, .slice none 0 0, .slice none 0 0, .slice none 0 0] 41)).alloc (.cells #[.int .i64 1, .int .i64 6] 47)).alloc (.cells #[.int .i64 0, .bool false, .int .i64 0, .int .i64 0, .int .i64 0, .slice (some ⟨w.heap.size + 1 + 1, 0, none⟩) 1 1, .slice none 0 0, .slice none 0 0, .slice none 0 0, .slice none 0 0, .slice none 0 0, .slice none 0 0] 41)).alloc (.cells #[.int .i64 1, .int .i64 1] 3)) (.cells #[.int .i64 0, .bool false, .int .i64 0, .int .i64 0, .int .i64 0, .slice (some ⟨w.heap.size, 0, none⟩) 1 1, .slice none 0 0, .slice none 0 0, .slice none 0 0, .slice none 0 0, .slice none 0 0, .slice none 0 0, .int .i64 0, .bool false, .int .i64 0, .int .i64 0, .int .i64 0, .slice (some ⟨w.heap.size + 1 + 1, 0, none⟩) 1 1, .slice none 0 0, .slice none 0 0, .slice none 0 0, .slice none 0 0, .slice none 0 0, .slice none 0 0] 41))
  have HB6 : Hid (Below w.heap.size w W6) := by show Below _ _ _; rw [hW6]; exact (((((((Below.refl _ w).alloc (Nat.le_refl _) _).alloc (by first | (simp; done) | (simp; omega)) _).alloc (by first | (simp; done) | (simp; omega)) _).alloc (by first | (simp; done) | (simp; omega)) _).alloc (by first | (simp; done) | (simp; omega)) _).alloc (by first | (simp; done) | (simp; omega)) _)
  rw [← hW6]
  clear hW6
  obtain ⟨p1, hp1⟩ : ∃ z, z = w.heap.size := ⟨_, rfl⟩
  obtain ⟨b1, hb1⟩ : ∃ z, z = w.heap.size + 1 := ⟨_, rfl⟩
  obtain ⟨p2, hp2⟩ : ∃ z, z = w.heap.size + 1 + 1 := ⟨_, rfl⟩
  obtain ⟨b2, hb2⟩ : ∃ z, z = w.heap.size + 1 + 1 + 1 := ⟨_, rfl⟩
  obtain ⟨gb, hgb⟩ : ∃ z, z = w.heap.size + 1 + 1 + 1 + 1 := ⟨_, rfl⟩
  obtain ⟨sb, hsb⟩ : ∃ z, z = w.heap.size + 1 + 1 + 1 + 1 + 1 := ⟨_, rfl⟩
  rw [← hsb, ← hgb, ← hb2, ← hp2, ← hb1, ← hp1]
  rw [← hp1] at H0
  rw [← hb1, ← hp1] at H1
  rw [← hp2] at H2
  rw [← hb2, ← hp2] at H3
  rw [← hgb] at H4
  rw [← hsb, ← hp2, ← hp1] at H5
  clear hp1 hb1 hp2 hb2 hgb hsb
  refine (head_call W6 gb sb p1 p2 1 1 H4.out H5.out H0.out H2.out).mono ?_
  rintro e w7 ⟨v, rfl, hb7, hv⟩
  obtain rfl := head_one hv
  unfold verA
  simp only
  have HB7 := Lib.hid hb7
  have k1 := (hb7.block _ (lt_of_heap H1.out)).trans H1.out
  have k3 := (hb7.block _ (lt_of_heap H3.out)).trans H3.out
  have x0 : w7.cell? ⟨b1, 0, none⟩ = some (.int .i64 0) := by rw [cell_of_row _ _ _ _ _ _ k1]; rfl
  have x1 : w7.cell? ⟨b1, 1, none⟩ = some (.bool false) := by rw [cell_of_row _ _ _ _ _ _ k1]; rfl
  have x2 : w7.cell? ⟨b1, 2, none⟩ = some (.int .i64 0) := by rw [cell_of_row _ _ _ _ _ _ k1]; rfl
  have x3 : w7.cell? ⟨b1, 3, none⟩ = some (.int .i64 0) := by rw [cell_of_row _ _ _ _ _ _ k1]; rfl
  have x4 : w7.cell? ⟨b1, 4, none⟩ = some (.int .i64 0) := by rw [cell_of_row _ _ _ _ _ _ k1]; rfl
  have x5 : w7.cell? ⟨b1, 5, none⟩ = some (.slice (some ⟨p1, 0, none⟩) 1 1) := by rw [cell_of_row _ _ _ _ _ _ k1]; rfl
  have x6 : w7.cell? ⟨b1, 6, none⟩ = some (.slice none 0 0) := by rw [cell_of_row _ _ _ _ _ _ k1]; rfl
  have x7 : w7.cell? ⟨b1, 7, none⟩ = some (.slice none 0 0) := by rw [cell_of_row _ _ _ _ _ _ k1]; rfl
  have x8 : w7.cell? ⟨b1, 8, none⟩ = some (.slice none 0 0) := by rw [cell_of_row _ _ _ _ _ _ k1]; rfl
  have x9 : w7.cell? ⟨b1, 9, none⟩ = some (.slice none 0 0) := by rw [cell_of_row _ _ _ _ _ _ k1]; rfl
  have x10 : w7.cell? ⟨b1, 10, none⟩ = some (.slice none 0 0) := by rw [cell_of_row _ _ _ _ _ _ k1]; rfl
  have x11 : w7.cell? ⟨b1, 11, none⟩ = some (.slice none 0 0) := by rw [cell_of_row _ _ _ _ _ _ k1]; rfl
  have y0 : w7.cell? ⟨b2, 0, none⟩ = some (.int .i64 0) := by rw [cell_of_row _ _ _ _ _ _ k3]; rfl
  have y1 : w7.cell? ⟨b2, 1, none⟩ = some (.bool false) := by rw [cell_of_row _ _ _ _ _ _ k3]; rfl
  have y2 : w7.cell? ⟨b2, 2, none⟩ = some (.int .i64 0) := by rw [cell_of_row _ _ _ _ _ _ k3]; rfl
  have y3 : w7.cell? ⟨b2, 3, none⟩ = some (.int .i64 0) := by rw [cell_of_row _ _ _ _ _ _ k3]; rfl
  have y4 : w7.cell? ⟨b2, 4, none⟩ = some (.int .i64 0) := by rw [cell_of_row _ _ _ _ _ _ k3]; rfl
  have y5 : w7.cell? ⟨b2, 5, none⟩ = some (.slice (some ⟨p2, 0, none⟩) 1 1) := by rw [cell_of_row _ _ _ _ _ _ k3]; rfl
  have y6 : w7.cell? ⟨b2, 6, none⟩ = some (.slice none 0 0) := by rw [cell_of_row _ _ _ _ _ _ k3]; rfl
  have y7 : w7.cell? ⟨b2, 7, none⟩ = some (.slice none 0 0) := by rw [cell_of_row _ _ _ _ _ _ k3]; rfl
  have y8 : w7.cell? ⟨b2, 8, none⟩ = some (.slice none 0 0) := by rw [cell_of_row _ _ _ _ _ _ k3]; rfl
  have y9 : w7.cell? ⟨b2, 9, none⟩ = some (.slice none 0 0) := by rw [cell_of_row _ _ _ _ _ _ k3]; rfl
  have y10 : w7.cell? ⟨b2, 10, none⟩ = some (.slice none 0 0) := by rw [cell_of_row _ _ _ _ _ _ k3]; rfl
  have y11 : w7.cell? ⟨b2, 11, none⟩ = some (.slice none 0 0) := by rw [cell_of_row _ _ _ _ _ _ k3]; rfl
  have l1 := lt_of_heap k1
  have l3 := lt_of_heap k3
  clear hb7 hv k1 k3
  go_wp2_with fail
  obtain ⟨W10, hW10⟩ : ∃ W10, W10 = (((w7.alloc (.cells #[.int .i64 2, .int .i64 0, .int .i64 1] 31)).alloc (.cells #[.int .i64 1, .int .i64 2] 3)).alloc (.cells #[.int .i64 0, .bool false, .int .i64 0, .int .i64 0, .int .i64 0, .slice (some ⟨p1, 0, none⟩) 1 1, .slice none 0 0, .slice none 0 0, .slice none 0 0, .slice none 0 0, .slice none 0 0, .slice none 0 0, .int .i64 0, .bool false, .int .i64 0, .int .i64 0, .int .i64 0, .slice (some ⟨p2, 0, none⟩) 1 1, .slice none 0 0, .slice none 0 0, .slice none 0 0, .slice none 0 0, .slice none 0 0, .slice none 0 0] 41)) := ⟨_, rfl⟩
  have J0 : Hid (W10.heap[w7.heap.size]? = some (.cells #[.int .i64 2, .int .i64 0, .int .i64 1] 31 (0, 0))) := by show _ = _; rw [hW10]; exact ((Below.heap_alloc _ _ _ (by first | (simp; done) | (simp; omega))).trans ((Below.heap_alloc _ _ _ (by first | (simp; done) | (simp; omega))).trans (heap_alloc_new w7 _)))
  have J1 : Hid (W10.heap[w7.heap.size + 1]? = some (.cells #[.int .i64 1, .int .i64 2] 3 (0, 0))) := by show _ = _; rw [hW10]; exact ((Below.heap_alloc _ _ _ (by first | (simp; done) | (simp; omega))).trans (by simpa using heap_alloc_new (w7.alloc (.cells #[.int .i64 2, .int .i64 0, .int .i64 1] 31)) (.cells #[.int .i64 1, .int .i64 2] 3)))
  have J2 : Hid (W10.heap[w7.heap.size + 1 + 1]? = some (.cells #[.int .i64 0, .bool false, .int .i64 0, .int .i64 0, .int .i64 0, .slice (some ⟨p1, 0, none⟩) 1 1, .slice none 0 0, .slice none 0 0, .slice none 0 0, .slice none 0 0, .slice none 0 0, .slice none 0 0, .int .i64 0, .bool false, .int .i64 0, .int .i64 0, .int .i64 0, .slice (some ⟨p2, 0, none⟩) 1 1, .slice none 0 0, .slice none 0 0, .slice none 0 0, .slice none 0 0, .slice none 0 0, .slice none 0 0] 41 (0, 0))) := by show _ = _; rw [hW10]; exact (by simpa using heap_alloc_new ((w7.alloc (.cells #[.int .i64 2, .int .i64 0, .int .i64 1] 31)).alloc (.cells #[.int .i64 1, .int .i64 2] 3)) (.cells #[.int .i64 0, .bool false, .int .i64 0, .int .i64 0, .int .i64 0, .slice (some ⟨p1, 0, none⟩) 1 1, .slice none 0 0, .slice none 0 0, .slice none 0 0, .slice none 0 0, .slice none 0 0, .slice none 0 0, .int .i64 0, .bool false, .int .i64 0, .int .i64 0, .int .i64 0, .slice (some ⟨p2, 0, none⟩) 1 1, .slice none 0 0, .slice none 0 0, .slice none 0 0, .slice none 0 0, .slice none 0 0, .slice none 0 0] 41))
  have HB10 : Hid (Below w7.heap.size w7 W10) := by show Below _ _ _; rw [hW10]; exact (((Below.refl _ w7).alloc (Nat.le_refl _) _).alloc (by simp) _).alloc (by simp; omega) _
  have HBX : Hid (Below W6.heap.size W6 W10) := HB7.out.trans (HB10.out.mono HB7.out.size)
  rw [← hW10]
  clear hW10
  obtain ⟨vb, hvb⟩ : ∃ z, z = w7.heap.size := ⟨_, rfl⟩
  obtain ⟨gc, hgc⟩ : ∃ z, z = w7.heap.size + 1 := ⟨_, rfl⟩
  obtain ⟨sd, hsd⟩ : ∃ z, z = w7.heap.size + 1 + 1 := ⟨_, rfl⟩
  rw [← hsd, ← hgc, ← hvb]
  rw [← hvb] at J0
  rw [← hgc] at J1
  rw [← hsd] at J2
  clear hvb hgc hsd x0 x1 x2 x3 x4 x5 x6 x7 x8 x9 x10 x11 y0 y1 y2 y3 y4 y5 y6 y7 y8 y9 y10 y11 l1 l3
  refine (head_call W10 gc sd p1 p2 1 2 J1.out J2.out ((HBX.out.block _ (lt_of_heap H0.out)).trans H0.out) ((HBX.out.block _ (lt_of_heap H2.out)).trans H2.out)).mono ?_
  rintro e w11 ⟨v, rfl, hb11, hv⟩
  obtain rfl := head_two hv
  unfold verA verd0
  simp only
  have HB11 : Hid (Below W6.heap.size W6 w11) := HBX.out.trans (hb11.mono HBX.out.size)
  have HBW : Hid (Below w.heap.size w w11) := HB6.out.trans (HB11.out.mono HB6.out.size)
  have k1 := (HB11.out.block _ (lt_of_heap H1.out)).trans H1.out
  have kv := (hb11.block _ (lt_of_heap J0.out)).trans J0.out
  have v0 : w11.cell? ⟨vb, 0, none⟩ = some (.int .i64 2) := by rw [cell_of_row _ _ _ _ _ _ kv]; rfl
  have v1 : w11.cell? ⟨vb, 1, none⟩ = some (.int .i64 0) := by rw [cell_of_row _ _ _ _ _ _ kv]; rfl
  have v2 : w11.cell? ⟨vb, 2, none⟩ = some (.int .i64 1) := by rw [cell_of_row _ _ _ _ _ _ kv]; rfl
  have x0 : w11.cell? ⟨b1, 0, none⟩ = some (.int .i64 0) := by rw [cell_of_row _ _ _ _ _ _ k1]; rfl
  have x1 : w11.cell? ⟨b1, 1, none⟩ = some (.bool false) := by rw [cell_of_row _ _ _ _ _ _ k1]; rfl
  have x2 : w11.cell? ⟨b1, 2, none⟩ = some (.int .i64 0) := by rw [cell_of_row _ _ _ _ _ _ k1]; rfl
  have x3 : w11.cell? ⟨b1, 3, none⟩ = some (.int .i64 0) := by rw [cell_of_row _ _ _ _ _ _ k1]; rfl
  have x4 : w11.cell? ⟨b1, 4, none⟩ = some (.int .i64 0) := by rw [cell_of_row _ _ _ _ _ _ k1]; rfl
  have x5 : w11.cell? ⟨b1, 5, none⟩ = some (.slice (some ⟨p1, 0, none⟩) 1 1) := by rw [cell_of_row _ _ _ _ _ _ k1]; rfl
  have x6 : w11.cell? ⟨b1, 6, none⟩ = some (.slice none 0 0) := by rw [cell_of_row _ _ _ _ _ _ k1]; rfl
  have x7 : w11.cell? ⟨b1, 7, none⟩ = some (.slice none 0 0) := by rw [cell_of_row _ _ _ _ _ _ k1]; rfl
  have x8 : w11.cell? ⟨b1, 8, none⟩ = some (.slice none 0 0) := by rw [cell_of_row _ _ _ _ _ _ k1]; rfl
  have x9 : w11.cell? ⟨b1, 9, none⟩ = some (.slice none 0 0) := by rw [cell_of_row _ _ _ _ _ _ k1]; rfl
  have x10 : w11.cell? ⟨b1, 10, none⟩ = some (.slice none 0 0) := by rw [cell_of_row _ _ _ _ _ _ k1]; rfl
  have x11 : w11.cell? ⟨b1, 11, none⟩ = some (.slice none 0 0) := by rw [cell_of_row _ _ _ _ _ _ k1]; rfl
  have l1 := lt_of_heap k1
  have lv := lt_of_heap kv
  have HO : Hid (∀ W, Below W6.heap.size W6 W → Calls Try.prog 12 #[.agg #[.int .i64 0, .bool false, .int .i64 0, .int .i64 0, .int .i64 0, .slice (some ⟨p1, 0, none⟩) 1 1, .slice none 0 0, .slice none 0 0, .slice none 0 0, .slice none 0 0, .slice none 0 0, .slice none 0 0]] W (OrderLeft W 0)) := fun W hb =>
    order_12 (seenOf ⟨1, 5⟩ ⟨some ⟨p1, 0, none⟩, 1, 1⟩) W (seen_of ((hb.block _ (lt_of_heap H0.out)).trans H0.out)) (few_of _ _)
  have HBA : Hid (∀ o, Below W6.heap.size W6 (w11.alloc o)) := fun o => HB11.out.alloc HB11.out.size _
  clear hb11 hv k1 kv
  go_wp2_with fail
  refine (HO.out _ (HBA.out _)).mono ?_
  rintro e w12 ⟨oa, ocap, rfl, hb12⟩
  have HB12 : Hid (Below w.heap.size w w12) := HB6.out.trans (((HBA.out _).trans (hb12.mono (HBA.out _).size)).mono HB6.out.size)
  clear hb12
  go_wp2_with fail
  go_ret
  exact ⟨rfl, HB12.out⟩
end Go.Proofs.Ytpcmkifgfokdpaa
