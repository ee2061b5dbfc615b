/- General: a range over a map that reads as an association list: what has come, what is to come. Nothing here names a program. -/
import Derived.Test.YtfojgghnkjmjhaaDoorGen
import Derived.Maps.RangeWalk
namespace Go.My
open Go.RowKit
open Go.ChangeMaps (setBlock)
open Go.MapKept (heap_set)

section
variable {K V : Type} [DecidableEq K] {P : Program} {w w' : World} {b r : Nat} {ek : K → Value} {ev : V → Value} {l done todo : List (K × V)}

/-- a range over the map in block b is under way, its iterator in block r: these have come, those are to come -/
def RangeAt (w : World) (b r : Nat) (ek : K → Value) (ev : V → Value) (l done todo : List (K × V)) : Prop :=
  MapAt w b ek ev l ∧ (done ++ todo).Perm l ∧ ∃ (ts : List (MapEntry × (K × V))) (es : Array MapEntry) (clock since : Nat) (seen : Array Nat) (c0 : Nat),
    w.heap[b]? = some (.map es clock) ∧ MapKept.Stamped es clock ∧ w.heap[r]? = some (.mapIter (some b) since seen c0) ∧ (∀ x ∈ es.toList, x.born < since) ∧ since ≤ c0 ∧ since ≤ clock ∧
    ts.map (·.1) = es.toList ∧ (∀ t ∈ ts, t.1.key = ek t.2.1 ∧ t.1.val = ev t.2.2) ∧ todo = (ts.filter fun t => !seen.contains t.1.born).map (·.2)

theorem RangeAt.map (h : RangeAt w b r ek ev l done todo) : MapAt w b ek ev l := h.1
theorem RangeAt.perm (h : RangeAt w b r ek ev l done todo) : (done ++ todo).Perm l := h.2.1
theorem RangeAt.lt (h : RangeAt w b r ek ev l done todo) : r < w.heap.size := by
  obtain ⟨_, _, _, _, _, _, _, _, _, _, hr, _⟩ := h
  exact lt_of_heap hr
theorem RangeAt.ne (h : RangeAt w b r ek ev l done todo) : r ≠ b := by
  obtain ⟨_, _, _, _, _, _, _, _, hb, _, hr, _⟩ := h
  rintro rfl
  rw [hb] at hr
  cases hr
theorem RangeAt.iter (h : RangeAt w b r ek ev l done todo) : ∃ m s seen c, w.heap[r]? = some (.mapIter m s seen c) := by
  obtain ⟨_, _, _, _, _, _, _, _, _, _, hr, _⟩ := h
  exact ⟨_, _, _, _, hr⟩
theorem RangeAt.keep (h : RangeAt w b r ek ev l done todo) (hb : w'.heap[b]? = w.heap[b]?) (hr : w'.heap[r]? = w.heap[r]?) : RangeAt w' b r ek ev l done todo := by
  obtain ⟨h1, h2, ts, es, clock, since, seen, c0, hb', hst, hr', rest⟩ := h
  exact ⟨h1.keep hb, h2, ts, es, clock, since, seen, c0, hb.trans hb', hst, hr.trans hr', rest⟩
theorem RangeAt.touch {S : List Nat} (h : RangeAt w b r ek ev l done todo) (ht : Wrote S w w') (hb : b ∉ S) (hr : r ∉ S) : RangeAt w' b r ek ev l done todo :=
  h.keep (ht.block b h.map.lt hb) (ht.block r h.lt hr)
theorem RangeAt.drew (h : RangeAt w b r ek ev l done todo) : RangeAt w.drew b r ek ev l done todo := h
theorem RangeAt.drewN (h : RangeAt w b r ek ev l done todo) (n : Nat) : RangeAt (w.drewN n) b r ek ev l done todo := h
theorem RangeAt.alloc (h : RangeAt w b r ek ev l done todo) (o : Obj) : RangeAt (w.alloc o) b r ek ev l done todo :=
  h.keep (Below.heap_alloc w o b h.map.lt) (Below.heap_alloc w o r h.lt)
theorem RangeAt.left_eq (h : RangeAt w b r ek ev l done todo) : w.rangeLeft b r = todo.length := by
  obtain ⟨_, _, ts, es, clock, since, seen, c0, hb, _, hr, _, _, _, hts, _, rfl⟩ := h
  simp only [World.rangeLeft, hb, hr, leftOf, List.length_map]
  have : (Array.filter (fun e => !seen.contains e.born) es).size = (es.toList.filter fun e => !seen.contains e.born).length := by
    rw [← Array.length_toList, Array.toList_filter]
  rw [this, ← hts, List.filter_map, List.length_map]
  rfl

omit [DecidableEq K] in
theorem zip_of {es : List MapEntry} {l : List (K × V)} (he : es.map (fun e => (e.key, e.val)) = l.map fun p => (ek p.1, ev p.2)) :
    ∃ ts : List (MapEntry × (K × V)), ts.map (·.1) = es ∧ ts.map (·.2) = l ∧ ∀ t ∈ ts, t.1.key = ek t.2.1 ∧ t.1.val = ev t.2.2 := by
  induction l generalizing es with
  | nil =>
    cases es with
    | nil => exact ⟨[], rfl, rfl, by simp⟩
    | cons _ _ => simp at he
  | cons p l ih =>
    cases es with
    | nil => simp at he
    | cons e es =>
      simp only [List.map_cons, List.cons.injEq, Prod.mk.injEq] at he
      obtain ⟨ts, h1, h2, h3⟩ := ih he.2
      refine ⟨(e, p) :: ts, by simp [h1], by simp [h2], ?_⟩
      intro t ht
      rcases List.mem_cons.1 ht with rfl | ht
      · exact he.1
      · exact h3 t ht

theorem MapAt.range {t e k : TypeId} (h : MapAt w b ek ev l) (ht : P.underlying t = some (.map k e)) :
    ∃ w', (Instr.range t (.map (some b))).run P w = .ok (.pointer (some ⟨w.heap.size, 0, none⟩)) w' ∧ RangeAt w' b w.heap.size ek ev l [] l ∧ Below w.heap.size w w' ∧ w'.heap.size = w.heap.size + 1 := by
  have hlt := h.lt
  have h0 := h
  obtain ⟨hn, es, clock, hb, he, hst⟩ := h
  obtain ⟨ts, h1, h2, h3⟩ := zip_of he
  refine ⟨_, run_range_map w t k e b es clock ht hb, ⟨h0.alloc _, List.Perm.refl _, ts, es, clock, clock, #[], clock, ((MapKept.heap_alloc w _).2 b hlt).trans hb, hst, (MapKept.heap_alloc w _).1, hst.1, Nat.le_refl _, Nat.le_refl _, h1, h3, ?_⟩,
    (Below.refl _ _).alloc (Nat.le_refl _) _, by simp⟩
  have : (ts.filter fun t => !(#[] : Array Nat).contains t.1.born) = ts := by
    rw [List.filter_eq_self]
    intro t _
    simp
  rw [this, h2]

theorem filter_split {A : Type} {ts : List A} (f g : A → Bool) {t : A} (ht : t ∈ ts) (hft : f t = true) (hg : ∀ x, g x = true → f x = true) (hgt : g t = false)
    (h : ∀ x ∈ ts, f x = true → g x = false → x = t) (hnd : (ts.filter f).Nodup) : ∃ t1 t2, ts.filter f = t1 ++ t :: t2 ∧ ts.filter g = t1 ++ t2 := by
  have e : ts.filter g = (ts.filter f).filter g := by
    rw [List.filter_filter]
    refine List.filter_congr fun x _ => ?_
    cases hgx : g x with
    | true => simp [hg x hgx]
    | false => rfl
  have hm : t ∈ ts.filter f := List.mem_filter.2 ⟨ht, hft⟩
  obtain ⟨t1, t2, he⟩ := List.append_of_mem hm
  refine ⟨t1, t2, he, ?_⟩
  rw [e, he, List.filter_append, List.filter_cons, if_neg (by simp [hgt])]
  rw [he] at hnd
  have hall : ∀ x ∈ ts.filter f, x ≠ t → g x = true := fun x hx hne => by
    cases hgx : g x with
    | true => rfl
    | false =>
      obtain ⟨hxt, hxf⟩ := List.mem_filter.1 hx
      exact absurd (h x hxt hxf hgx) hne
  have hn1 := List.nodup_append.1 hnd
  have hn2 := List.nodup_cons.1 hn1.2.1
  rw [List.filter_eq_self.2, List.filter_eq_self.2]
  · intro x hx
    refine hall x (by rw [he]; simp [hx]) ?_
    rintro rfl
    exact hn2.1 hx
  · intro x hx
    refine hall x (by rw [he]; simp [hx]) ?_
    rintro rfl
    exact hn1.2.2 x hx x (by simp) rfl

theorem RangeAt.next (h : RangeAt w b r ek ev l done todo) (ty : TypeId) :
    (todo = [] ∧ (Instr.next (.pointer (some ⟨r, 0, none⟩)) false ty).run P w = .ok (.tuple #[.bool false]) w) ∨
    ∃ p t1 t2 w', todo = t1 ++ p :: t2 ∧ (Instr.next (.pointer (some ⟨r, 0, none⟩)) false ty).run P w = .ok (.tuple #[.bool true, ek p.1, ev p.2]) w' ∧
      RangeAt w' b r ek ev l (done ++ [p]) (t1 ++ t2) ∧ Wrote [r] w w' ∧ w'.heap.size = w.heap.size ∧ (Instr.entry (.pointer (some ⟨r, 0, none⟩))).run P w' = .ok (.tuple #[ek p.1, ev p.2]) w' := by
  have hne := h.ne
  obtain ⟨hmap, hperm, ts, es, clock, since, seen, c0, hb, hst, hr, hold, hsc, hsk, hts, hkv, rfl⟩ := h
  have hstm := (MapKept.stamped_iff es clock).1 hst
  have htnd : (ts.map (fun t => t.1.born)).Nodup := by
    have := hstm.2.1
    rw [← hts, List.map_map] at this
    exact this
  rcases run_next_at (P := P) w ty r b since c0 seen es clock hr hb hold hsc with ⟨h0, hrun⟩ | ⟨e, he, w1, hal, hrun⟩
  · refine .inl ⟨?_, hrun⟩
    have h1 : (Array.filter (fun e => !seen.contains e.born) es).toList.length = 0 := by rw [Array.length_toList]; exact h0
    rw [Array.toList_filter, ← hts, List.filter_map, List.length_map] at h1
    have h2 := List.eq_nil_of_length_eq_zero h1
    have h3 : (ts.filter fun t => !seen.contains t.1.born) = [] := h2
    rw [h3]
    rfl
  · obtain ⟨hem, hes⟩ := mem_left he
    rw [← hts] at hem
    obtain ⟨t, ht, rfl⟩ := List.mem_map.1 hem
    have hr1 : w1.heap[r]? = some (.mapIter (some b) since seen c0) := by rcases hal with rfl | rfl <;> exact hr
    have hb1 : w1.heap[b]? = some (.map es clock) := by rcases hal with rfl | rfl <;> exact hb
    have hset := heap_set (o' := .mapIter (some b) since (seen.push t.1.born) clock) hr1
    have hb' : (setBlock w1 r (.mapIter (some b) since (seen.push t.1.born) clock)).heap[b]? = some (.map es clock) := (hset.2 b (fun e1 => hne e1.symm)).trans hb1
    obtain ⟨t1, t2, e1, e2⟩ := filter_split (ts := ts) (fun t => !seen.contains t.1.born) (fun x => !(seen.push t.1.born).contains x.1.born) ht (by rw [hes]; rfl)
      (fun x hx => by rw [contains_push] at hx; cases hq : seen.contains x.1.born <;> simp_all) (by rw [contains_push]; simp)
      (fun x hx h1 h2 => by
        rw [contains_push] at h2
        have h3 : x.1.born = t.1.born := by
          cases hq : seen.contains x.1.born
          · rw [hq] at h2; simpa using h2
          · rw [hq] at h1; cases h1
        obtain ⟨i, hi⟩ := List.getElem?_of_mem hx
        obtain ⟨j, hj⟩ := List.getElem?_of_mem ht
        have hi' : (ts.map fun t => t.1.born)[i]? = some x.1.born := by rw [List.getElem?_map, hi]; rfl
        have hj' : (ts.map fun t => t.1.born)[j]? = some x.1.born := by rw [List.getElem?_map, hj, h3]; rfl
        have : i = j := by
          have hil := (List.getElem?_eq_some_iff.1 hi').1
          exact (List.getElem?_inj hil htnd).1 (hi'.trans hj'.symm)
        subst this
        rw [hi] at hj
        cases hj
        rfl)
      (((List.pairwise_map.1 htnd).imp fun {x y} h e => h (by rw [e])).sublist List.filter_sublist)
    obtain ⟨hk, hv⟩ := hkv t ht
    refine .inr ⟨t.2, t1.map (·.2), t2.map (·.2), _, by rw [e1]; simp, by rw [hrun, hk, hv], ⟨hmap.keep (hb'.trans hb.symm), ?_, ts, es, clock, since, seen.push t.1.born, clock, hb', hst, hset.1, hold, hsk, hsk, hts, hkv, by rw [e2]; simp⟩, ?_, ?_, ?_⟩
    · rw [e1, List.map_append, List.map_cons] at hperm
      refine List.Perm.trans ?_ hperm
      rw [List.append_assoc]
      refine List.Perm.append_left _ ?_
      rw [List.singleton_append]
      exact List.perm_middle.symm
    · rcases hal with rfl | rfl <;> exact ⟨rfl, rfl, rfl, by simp [setBlock], fun i _ hi => hset.2 i (by simpa using hi)⟩
    · rcases hal with rfl | rfl <;> simp [setBlock]
    · have := run_entry_at (P := P) _ r b since seen es clock t.1 hset.1 hb' (by rw [← hts]; exact hem) hstm.2.1
      rw [this, hk, hv]
end

section
variable {K V : Type} [DecidableEq K] {P : Program} {ek : K → Value} {ev : V → Value} {l done todo : List (K × V)} {ops : Array Oper} {rest : List Oper} {o : Oper} {a : Act} {Q : Exit → Act → World → Prop}
/-- 'range m', at the operation -/
theorem wpList_range_map (w : World) (hg : o.guard = none) (m : Operand) (t : TypeId) (hop : o.op = Op.range t m) {k e : TypeId} (ht : P.underlying t = some (.map k e)) (b : Nat) (hm : a.eval m = .map (some b)) (hat : MapAt w b ek ev l)
    (hK : ∀ w', RangeAt w' b w.heap.size ek ev l [] l → Below w.heap.size w w' → w'.heap.size = w.heap.size + 1 → wpList P ops Q rest (a.put o.dst (.pointer (some ⟨w.heap.size, 0, none⟩))) w') : wpList P ops Q (o :: rest) a w := by
  refine wpList_plain hg fun K' hK' => ?_
  obtain ⟨w', hrun, r1, r2, r3⟩ := hat.range ht
  unfold Oper.wp
  simp [execOp, hop, hm, hrun, Result.andThen]
  exact hK' _ _ (hK w' r1 r2 r3)
/-- the step, at the operation -/
theorem wpList_next_map (w : World) (hg : o.guard = none) (it : Operand) (hop : o.op = Op.next it false) (b r : Nat) (hit : a.eval it = .pointer (some ⟨r, 0, none⟩)) (h : RangeAt w b r ek ev l done todo)
    (hDone : todo = [] → wpList P ops Q rest (a.put o.dst (.tuple #[.bool false])) w)
    (hMore : ∀ (x : K) (c : V) (t1 t2 : List (K × V)) (w' : World), todo = t1 ++ (x, c) :: t2 → RangeAt w' b r ek ev l (done ++ [(x, c)]) (t1 ++ t2) → Wrote [r] w w' → w'.heap.size = w.heap.size →
      (Instr.entry (.pointer (some ⟨r, 0, none⟩))).run P w' = .ok (.tuple #[ek x, ev c]) w' → wpList P ops Q rest (a.put o.dst (.tuple #[.bool true, ek x, ev c])) w') : wpList P ops Q (o :: rest) a w := by
  refine wpList_plain hg fun K' hK' => ?_
  unfold Oper.wp
  rcases h.next (P := P) o.type with ⟨h0, hrun⟩ | ⟨p, t1, t2, w', h1, hrun, h2, h3, h4, h5⟩
  · simp [execOp, hop, hit, hrun, Result.andThen]
    exact hK' _ _ (hDone h0)
  · simp [execOp, hop, hit, hrun, Result.andThen]
    exact hK' _ _ (hMore p.1 p.2 t1 t2 w' h1 h2 h3 h4 h5)
end
end Go.My
