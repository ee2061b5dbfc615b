/- General laws: maps as association lists, the frame of a call that writes to some blocks of its own. Nothing here names a program. -/
import Derived.Maps.Keyed
import Derived.Carry
import Derived.OwnWalk
import Derived.Below
import Derived.Laws.StructEq
import Derived.Deep.Draws
import Derived.MapKept
namespace Go.My
open Go.RowKit

/-! ### association lists -/
section assoc
variable {K V : Type} [DecidableEq K]
def aget (l : List (K × V)) (k : K) : Option V := (l.find? fun p => p.1 == k).map (·.2)
def aput (l : List (K × V)) (k : K) (v : V) : List (K × V) :=
  match l with
  | [] => [(k, v)]
  | p :: r => if p.1 == k then (k, v) :: r else p :: aput r k v
def adel (l : List (K × V)) (k : K) : List (K × V) := l.filter fun p => !(p.1 == k)

theorem aget_nil (k : K) : aget ([] : List (K × V)) k = none := rfl
theorem aget_cons (p : K × V) (l : List (K × V)) (k : K) : aget (p :: l) k = if p.1 = k then some p.2 else aget l k := by
  unfold aget
  by_cases h : p.1 = k <;> simp [h]
theorem aget_aput (l : List (K × V)) (k k' : K) (v : V) : aget (aput l k v) k' = if k = k' then some v else aget l k' := by
  induction l with
  | nil => simp [aput, aget_cons, aget_nil]
  | cons p r ih =>
    unfold aput
    by_cases h : p.1 = k
    · simp only [h, beq_self_eq_true, if_true, aget_cons]
      split <;> rfl
    · simp only [beq_iff_eq, h, if_false, aget_cons, ih]
      by_cases h2 : p.1 = k'
      · have : ¬ k = k' := fun e => h (h2.trans e.symm)
        simp [h2, this]
      · simp [h2]
theorem aget_none {l : List (K × V)} {k : K} : aget l k = none ↔ ∀ p ∈ l, p.1 ≠ k := by
  simp [aget]
theorem aget_some_mem {l : List (K × V)} {k : K} {v : V} (h : aget l k = some v) : (k, v) ∈ l := by
  induction l with
  | nil => simp [aget_nil] at h
  | cons p r ih =>
    rw [aget_cons] at h
    split at h
    · rename_i e; cases h; subst e; simp
    · simp [ih h]
theorem mem_aput {l : List (K × V)} {k : K} {v : V} {p : K × V} (h : p ∈ aput l k v) : p = (k, v) ∨ p ∈ l := by
  induction l with
  | nil => simpa [aput] using h
  | cons q r ih =>
    unfold aput at h
    split at h
    · rcases List.mem_cons.1 h with h | h
      · exact .inl h
      · exact .inr (by simp [h])
    · rcases List.mem_cons.1 h with h | h
      · exact .inr (by simp [h])
      · rcases ih h with h | h
        · exact .inl h
        · exact .inr (by simp [h])
theorem keys_aput_none {l : List (K × V)} {k : K} (v : V) (h : aget l k = none) : aput l k v = l ++ [(k, v)] := by
  induction l with
  | nil => rfl
  | cons p r ih =>
    rw [aget_cons] at h
    split at h
    · cases h
    · rename_i hne
      unfold aput
      rw [if_neg (by simpa using hne), ih h]
      rfl
theorem keys_aput_some {l : List (K × V)} {k : K} (v : V) (h : aget l k ≠ none) : (aput l k v).map (·.1) = l.map (·.1) := by
  induction l with
  | nil => simp [aget_nil] at h
  | cons p r ih =>
    rw [aget_cons] at h
    unfold aput
    split at h
    · rename_i e; simp [e]
    · rename_i hne
      rw [if_neg (by simpa using hne)]
      simp [ih h]
theorem nodup_aput {l : List (K × V)} (k : K) (v : V) (h : (l.map (·.1)).Nodup) : ((aput l k v).map (·.1)).Nodup := by
  cases hg : aget l k with
  | none =>
    rw [keys_aput_none v hg, List.map_append]
    refine List.nodup_append.2 ⟨h, by simp, ?_⟩
    intro a ha b hb
    simp at hb
    subst hb
    obtain ⟨p, hp, rfl⟩ := List.mem_map.1 ha
    exact aget_none.1 hg p hp
  | some x => rw [keys_aput_some v (by simp [hg])]; exact h
theorem nodup_filter {A B : Type} {l : List (A × B)} (f : A × B → Bool) (h : (l.map (·.1)).Nodup) : ((l.filter f).map (·.1)).Nodup :=
  h.sublist (List.Sublist.map _ List.filter_sublist)
theorem length_aput_none {l : List (K × V)} {k : K} (v : V) (h : aget l k = none) : (aput l k v).length = l.length + 1 := by
  rw [keys_aput_none v h]; simp
theorem length_aput_some {l : List (K × V)} {k : K} (v : V) (h : aget l k ≠ none) : (aput l k v).length = l.length := by
  have := congrArg List.length (keys_aput_some v h); simpa using this
theorem aget_filter {l : List (K × V)} (f : K → Bool) (k : K) : aget (l.filter fun p => f p.1) k = if f k then aget l k else none := by
  induction l with
  | nil => simp [aget_nil]
  | cons p r ih =>
    rw [List.filter_cons]
    by_cases hp : f p.1 = true
    · rw [if_pos hp, aget_cons, aget_cons, ih]
      by_cases e : p.1 = k
      · subst e; simp [hp]
      · simp [e]
    · rw [if_neg hp, ih, aget_cons]
      by_cases e : p.1 = k
      · subst e; simp [hp]
      · simp [e]
theorem aget_mem {l : List (K × V)} (hn : (l.map (·.1)).Nodup) {k : K} {v : V} (h : (k, v) ∈ l) : aget l k = some v := by
  induction l with
  | nil => simp at h
  | cons p r ih =>
    simp only [List.map_cons, List.nodup_cons] at hn
    rw [aget_cons]
    rcases List.mem_cons.1 h with rfl | h
    · simp
    · rw [if_neg, ih hn.2 h]
      intro e
      exact hn.1 (List.mem_map.2 ⟨_, h, e.symm⟩)
end assoc

/-! ### the frame of a call that writes to the blocks of a list -/
structure Wrote (S : List Nat) (w w' : World) : Prop where
  os : w'.os = w.os
  tape : w'.tape = w.tape
  output : w'.output = w.output
  size : w.heap.size ≤ w'.heap.size
  block : ∀ k, k < w.heap.size → k ∉ S → w'.heap[k]? = w.heap[k]?

section
variable {S T : List Nat} {w w' w'' : World}
theorem Wrote.refl (S : List Nat) (w : World) : Wrote S w w := ⟨rfl, rfl, rfl, Nat.le_refl _, fun _ _ _ => rfl⟩
theorem Wrote.trans (h : Wrote S w w') (k : Wrote S w' w'') : Wrote S w w'' :=
  ⟨k.os.trans h.os, k.tape.trans h.tape, k.output.trans h.output, Nat.le_trans h.size k.size,
    fun i hi hn => (k.block i (Nat.lt_of_lt_of_le hi h.size) hn).trans (h.block i hi hn)⟩
theorem Wrote.mono (h : Wrote S w w') (hs : ∀ k ∈ S, k ∈ T) : Wrote T w w' :=
  ⟨h.os, h.tape, h.output, h.size, fun i hi hn => h.block i hi (fun hk => hn (hs i hk))⟩
/-- blocks that are new may be written, too -/
theorem Wrote.of_new (h : Wrote S w w') (hs : ∀ k ∈ S, k ∈ T ∨ w.heap.size ≤ k) : Wrote T w w' :=
  ⟨h.os, h.tape, h.output, h.size, fun i hi hn => h.block i hi (fun hk => by rcases hs i hk with h | h; exact hn h; omega)⟩
theorem Wrote.drew (h : Wrote S w w') : Wrote S w w'.drew := ⟨h.os, h.tape, h.output, h.size, h.block⟩
theorem Wrote.drewN (h : Wrote S w w') (n : Nat) : Wrote S w (w'.drewN n) := ⟨h.os, h.tape, h.output, h.size, h.block⟩
theorem Wrote.alloc (h : Wrote S w w') (o : Obj) : Wrote S w (w'.alloc o) :=
  ⟨h.os, h.tape, h.output, Nat.le_trans h.size (by simp), fun i hi hn => (Below.heap_alloc w' o i (Nat.lt_of_lt_of_le hi h.size)).trans (h.block i hi hn)⟩
theorem Wrote.setCell (h : Wrote S w w') {p : Addr} (hp : p.block ∈ S ∨ w.heap.size ≤ p.block) (u : Value) : Wrote S w (w'.setCell p u) :=
  ⟨h.os, h.tape, h.output, by simpa [World.setCell] using h.size, fun i hi hn => (Below.heap_setCell w' p u i (by
    rintro rfl
    rcases hp with hp | hp
    · exact hn hp
    · omega)).trans (h.block i hi hn)⟩
theorem Wrote.below {N : Nat} (h : Wrote S w w') (hN : N ≤ w.heap.size) (hS : ∀ k ∈ S, N ≤ k) : Below N w w' :=
  ⟨h.os, h.tape, h.output, h.size, fun k hk => h.block k (by omega) (fun hm => by have := hS k hm; omega)⟩
theorem Wrote.of_below (h : Below w.heap.size w w') : Wrote S w w' := ⟨h.os, h.tape, h.output, h.size, fun k hk _ => h.block k hk⟩
theorem Wrote.cell (h : Wrote S w w') {p : Addr} (hp : p.block < w.heap.size) (hn : p.block ∉ S) : w'.cell? p = w.cell? p := World.cell?_of_block (h.block _ hp hn)
theorem Wrote.heap {k : Nat} {o : Obj} (h : Wrote S w w') (hk : w.heap[k]? = some o) (hn : k ∉ S) : w'.heap[k]? = some o := by
  rw [h.block k (Array.getElem?_eq_some_iff.1 hk).1 hn, hk]
theorem Wrote.grown {row : Option Nat} (h : Wrote S w w') (hg : w'.grownBy w'' row) (hr : ∀ k, row = some k → k ∈ S ∨ w.heap.size ≤ k) : Wrote S w w'' :=
  ⟨hg.os.trans h.os, hg.tape.trans h.tape, hg.output.trans h.output, Nat.le_trans h.size hg.size,
    fun i hi hn => (hg.block i (Nat.lt_of_lt_of_le hi h.size) (fun e => by rcases hr i e.symm with h | h; exact hn h; omega)).trans (h.block i hi hn)⟩
end

theorem lt_of_heap {w : World} {k : Nat} {o : Obj} (h : w.heap[k]? = some o) : k < w.heap.size := (Array.getElem?_eq_some_iff.1 h).1

/-! ### a key's type -/
structure KeyOk {K : Type} [DecidableEq K] (P : Program) (k : TypeId) (ek : K → Value) : Prop where
  check : ∀ (w : World) (em : Bool) (x : K), (Instr.checkKey em 10000 k (ek x)).run P w = .ok () w
  find : ∀ (w : World) (x : K) (es : List MapEntry) (ks : List K), es.map (·.key) = ks.map ek →
    (Instr.findKey k (ek x) es).run P w = .ok ((ks.findIdx? (· == x)).bind fun i => (es[i]?).map fun e => (i, e.val)) w
  stays : ∀ x : K, Instr.sameBits 10000 (ek x) (ek x) = true

section
variable {K : Type} [DecidableEq K] {P : Program} {k : TypeId} {ek : K → Value}

theorem find_now (d : TypeDesc) (hs : ∀ x y : K, Instr.sameNow d (ek x) (ek y) = some (decide (x = y))) (x : K) :
    ∀ (es : List MapEntry) (ks : List K) (i : Nat), es.map (·.key) = ks.map ek →
      Instr.findNow d (ek x) es i = some ((ks.findIdx? (· == x)).bind fun j => (es[j]?).map fun e => (i + j, e.val))
  | [], [], i, _ => by simp [Instr.findNow]
  | [], _ :: _, _, h => by simp at h
  | _ :: _, [], _, h => by simp at h
  | e :: es, y :: ks, i, h => by
    simp only [List.map_cons, List.cons.injEq] at h
    unfold Instr.findNow
    rw [h.1, hs x y]
    by_cases hxy : x = y
    · subst hxy; simp [List.findIdx?_cons]
    · have hyx : ¬ y = x := fun e => hxy e.symm
      simp only [hxy, decide_false]
      rw [find_now d hs x es ks (i + 1) h.2]
      simp only [List.findIdx?_cons, beq_iff_eq, hyx, if_false]
      cases ks.findIdx? (· == x) with
      | none => rfl
      | some j => simp [Nat.add_assoc, Nat.add_comm 1 j]

theorem find_asking (heq : ∀ (w : World) (x y : K), (Op.equal k (ek x) (ek y)).run P w = .ok (decide (x = y)) w) (x : K) (w : World) :
    ∀ (es : List MapEntry) (ks : List K) (i : Nat), es.map (·.key) = ks.map ek →
      (Instr.findAsking k (ek x) es i).run P w = .ok ((ks.findIdx? (· == x)).bind fun j => (es[j]?).map fun e => (i + j, e.val)) w
  | [], [], i, _ => by simp [Instr.findAsking]
  | [], _ :: _, _, h => by simp at h
  | _ :: _, [], _, h => by simp at h
  | e :: es, y :: ks, i, h => by
    simp only [List.map_cons, List.cons.injEq] at h
    unfold Instr.findAsking
    simp only [Sem.run_bind, h.1, heq w x y, Result.andThen_ok]
    by_cases hxy : x = y
    · subst hxy; simp [List.findIdx?_cons]
    · have hyx : ¬ y = x := fun e => hxy e.symm
      simp only [hxy, decide_false, Bool.false_eq_true, if_false]
      rw [find_asking heq x w es ks (i + 1) h.2]
      simp only [List.findIdx?_cons, beq_iff_eq, hyx, if_false]
      cases ks.findIdx? (· == x) with
      | none => rfl
      | some j => simp [Nat.add_assoc, Nat.add_comm 1 j]

theorem KeyOk.ofNow (d : TypeDesc) (hk : P.underlying k = some d) (hs : ∀ x y : K, Instr.sameNow d (ek x) (ek y) = some (decide (x = y)))
    (hc : ∀ (w : World) (em : Bool) (x : K), (Instr.checkKey em 10000 k (ek x)).run P w = .ok () w) (hst : ∀ x : K, Instr.sameBits 10000 (ek x) (ek x) = true) : KeyOk P k ek := by
  refine ⟨hc, fun w x es ks h => ?_, hst⟩
  unfold Instr.findKey
  simp only [Sem.run_bind, run_underlying hk, Result.andThen_ok]
  rw [find_now d hs x es ks 0 h]
  simp

theorem KeyOk.ofAsk (d : TypeDesc) (hk : P.underlying k = some d) (hs : ∀ (es : List MapEntry) (x y : K) (v : Value) (b : Nat), Instr.findNow d (ek x) ({ key := ek y, val := v, born := b } :: es) 0 = none)
    (heq : ∀ (w : World) (x y : K), (Op.equal k (ek x) (ek y)).run P w = .ok (decide (x = y)) w)
    (hc : ∀ (w : World) (em : Bool) (x : K), (Instr.checkKey em 10000 k (ek x)).run P w = .ok () w) (hst : ∀ x : K, Instr.sameBits 10000 (ek x) (ek x) = true) : KeyOk P k ek := by
  refine ⟨hc, fun w x es ks h => ?_, hst⟩
  unfold Instr.findKey
  simp only [Sem.run_bind, run_underlying hk, Result.andThen_ok]
  cases es with
  | nil =>
    cases ks with
    | nil => simp [Instr.findNow]
    | cons _ _ => simp at h
  | cons e es =>
    cases ks with
    | nil => simp at h
    | cons y ks =>
      have hey : e.key = ek y := by simp at h; exact h.1
      have h0 := hs es x y e.val e.born
      rw [← hey] at h0
      rw [h0]
      simpa using find_asking heq x w (e :: es) (y :: ks) 0 h

/-- unlike keys are unlike values -/
theorem KeyOk.inj (h : KeyOk P k ek) (w0 : World) {x y : K} (he : ek x = ek y) : x = y := by
  have h1 := h.find w0 x [{ key := ek y, val := .bool true, born := 0 }] [y] rfl
  have h2 := h.find w0 y [{ key := ek y, val := .bool true, born := 0 }] [y] rfl
  rw [he, h2] at h1
  by_cases hxy : y = x
  · exact hxy.symm
  · simp [List.findIdx?_cons, hxy] at h1
/-- keys of an integer's kind -/
theorem key_int {q : IntKind} (hk : P.underlying k = some (.int q)) : KeyOk P k (fun n : Int => .int q n) := by
  refine KeyOk.ofNow (.int q) hk (fun x y => by simp [Instr.sameNow]; rfl) (fun w em x => ?_) (fun x => by simp [Instr.sameBits])
  unfold Instr.checkKey
  simp [run_underlying hk]
theorem bytes_beq (x y : ByteArray) : (x == y) = decide (x = y) := by
  obtain ⟨a⟩ := x
  obtain ⟨b⟩ := y
  by_cases h : a = b
  · subst h
    have e : ((⟨a⟩ : ByteArray) == ⟨a⟩) = (a == a) := rfl
    rw [e]
    simp
  · have e : ((⟨a⟩ : ByteArray) == ⟨b⟩) = (a == b) := rfl
    rw [e]
    simp [h]
theorem key_string (hk : P.underlying k = some .string) : KeyOk P k (fun s : ByteArray => .string s) := by
  refine KeyOk.ofNow .string hk (fun x y => by simp [Instr.sameNow, bytes_beq]) (fun w em x => ?_) (fun x => by simp [Instr.sameBits, bytes_beq])
  unfold Instr.checkKey
  simp [run_underlying hk]
end

/-! ### a map that reads as an association list -/
def MapAt {K V : Type} [DecidableEq K] (w : World) (b : Nat) (ek : K → Value) (ev : V → Value) (l : List (K × V)) : Prop :=
  (l.map (·.1)).Nodup ∧ ∃ es clock, w.heap[b]? = some (.map es clock) ∧ es.toList.map (fun e => (e.key, e.val)) = (l.map fun p => (ek p.1, ev p.2)) ∧ MapKept.Stamped es clock

section
variable {K V : Type} [DecidableEq K] {P : Program} {w w' : World} {b : Nat} {ek : K → Value} {ev : V → Value} {l : List (K × V)}

theorem MapAt.lt (h : MapAt w b ek ev l) : b < w.heap.size := by
  obtain ⟨_, es, c, hb, _⟩ := h
  exact lt_of_heap hb
theorem MapAt.nodup (h : MapAt w b ek ev l) : (l.map (·.1)).Nodup := h.1
theorem MapAt.keep (h : MapAt w b ek ev l) (hb : w'.heap[b]? = w.heap[b]?) : MapAt w' b ek ev l := by
  obtain ⟨hn, es, c, hh, he⟩ := h
  exact ⟨hn, es, c, hb.trans hh, he⟩
theorem MapAt.touch {S : List Nat} (h : MapAt w b ek ev l) (ht : Wrote S w w') (hb : b ∉ S) : MapAt w' b ek ev l := h.keep (ht.block b h.lt hb)
theorem MapAt.drew (h : MapAt w b ek ev l) : MapAt w.drew b ek ev l := h
theorem MapAt.drewN (h : MapAt w b ek ev l) (n : Nat) : MapAt (w.drewN n) b ek ev l := h
theorem MapAt.alloc (h : MapAt w b ek ev l) (o : Obj) : MapAt (w.alloc o) b ek ev l := h.keep (Below.heap_alloc w o b h.lt)
theorem MapAt.new (w : World) (ek : K → Value) (ev : V → Value) : MapAt (w.alloc (.map #[] 0)) w.heap.size ek ev [] :=
  ⟨by simp, #[], 0, heap_alloc_new w _, rfl, MapKept.stamped_empty 0⟩
theorem MapAt.ne_cells {g : Nat} {cs : Array Value} {t : TypeId} {f : Nat × Nat} (h : MapAt w b ek ev l) (hg : w.heap[g]? = some (.cells cs t f)) : b ≠ g := by
  rintro rfl
  obtain ⟨_, es, c, hb, _⟩ := h
  rw [hb] at hg
  cases hg

/-- what 'find' finds -/
theorem find_get (l : List (K × V)) (ev : V → Value) (ek : K → Value) (es : List MapEntry) (he : es.map (fun e => (e.key, e.val)) = l.map fun p => (ek p.1, ev p.2)) (x : K) :
    ((((l.map (·.1)).findIdx? (· == x)).bind fun i => (es[i]?).map fun e => (i, e.val)).map (·.2)) = (aget l x).map ev := by
  induction l generalizing es with
  | nil => simp [aget_nil]
  | cons p r ih =>
    cases es with
    | nil => simp at he
    | cons e es =>
      simp only [List.map_cons, List.cons.injEq, Prod.mk.injEq] at he
      rw [aget_cons]
      simp only [List.map_cons, List.findIdx?_cons, beq_iff_eq]
      by_cases h : p.1 = x
      · simp [h, he.1.2]
      · simp only [h, if_false]
        rw [← ih es he.2]
        cases (r.map (·.1)).findIdx? (· == x) with
        | none => rfl
        | some j => cases hj : es[j]? <;> simp [hj]

theorem keys_of {A B : Type} {l : List (A × B)} {ek : A → Value} {ev : B → Value} (es : List MapEntry) (he : es.map (fun e => (e.key, e.val)) = l.map fun p => (ek p.1, ev p.2)) : es.map (·.key) = (l.map (·.1)).map ek := by
  have := congrArg (List.map Prod.fst) he
  simpa [List.map_map, Function.comp_def] using this

theorem MapAt.lookup {t e : TypeId} {k : TypeId} (h : MapAt w b ek ev l) (hk : KeyOk P k ek) (ht : P.underlying t = some (.map k e)) {z : Value} (hz : (zeroValue e).run P w = .ok z w) (x : K) :
    (Instr.lookup t (.map (some b)) (ek x) true).run P w = .ok (.tuple #[((aget l x).map ev).getD z, .bool (aget l x).isSome]) w := by
  obtain ⟨_, es, c, hh, he, _⟩ := h
  unfold Instr.lookup
  have h1 := find_get l ev ek es.toList he x
  have h2 := hk.find w x es.toList _ (keys_of es.toList he)
  simp only [Sem.run_bind, run_underlying ht, Result.andThen_ok, getObj, Sem.run, hh, Sem.run_pure, hk.check, h2]
  generalize ((l.map (·.1)).findIdx? (· == x)).bind _ = r at h1
  cases r with
  | none =>
    have : aget l x = none := by cases hg : aget l x <;> simp_all
    simp [this, hz]
  | some y =>
    cases hg : aget l x with
    | none => simp [hg] at h1
    | some v =>
      simp [hg] at h1
      obtain ⟨i, u⟩ := y
      simp at h1
      simp [h1]

theorem MapAt.lookup1 {t e : TypeId} {k : TypeId} (h : MapAt w b ek ev l) (hk : KeyOk P k ek) (ht : P.underlying t = some (.map k e)) {z : Value} (hz : (zeroValue e).run P w = .ok z w) (x : K) :
    (Instr.lookup t (.map (some b)) (ek x) false).run P w = .ok (((aget l x).map ev).getD z) w := by
  obtain ⟨_, es, c, hh, he, _⟩ := h
  unfold Instr.lookup
  have h1 := find_get l ev ek es.toList he x
  have h2 := hk.find w x es.toList _ (keys_of es.toList he)
  simp only [Sem.run_bind, run_underlying ht, Result.andThen_ok, getObj, Sem.run, hh, Sem.run_pure, hk.check, h2]
  generalize ((l.map (·.1)).findIdx? (· == x)).bind _ = r at h1
  cases r with
  | none =>
    have : aget l x = none := by cases hg : aget l x <;> simp_all
    simp [this, hz]
  | some y =>
    cases hg : aget l x with
    | none => simp [hg] at h1
    | some v =>
      simp [hg] at h1
      obtain ⟨i, u⟩ := y
      simp at h1
      simp [h1]

theorem MapAt.len (h : MapAt w b ek ev l) : ∃ es clock, w.heap[b]? = some (.map es clock) ∧ es.size = l.length := by
  obtain ⟨_, es, c, hh, he, _⟩ := h
  refine ⟨es, c, hh, ?_⟩
  have := congrArg List.length he
  simpa using this
end

/-- the world with another map in a block -/
def setMap (w : World) (b : Nat) (es : Array MapEntry) (c : Nat) : World := { w with heap := w.heap.setIfInBounds b (.map es c) }
theorem setMap_same {w : World} {b : Nat} (es : Array MapEntry) (c : Nat) (h : b < w.heap.size) : (setMap w b es c).heap[b]? = some (.map es c) := by
  simp [setMap, h]
theorem setMap_other {w : World} {b k : Nat} (es : Array MapEntry) (c : Nat) (h : k ≠ b) : (setMap w b es c).heap[k]? = w.heap[k]? := by
  simp only [setMap]
  rw [Array.getElem?_setIfInBounds_ne (Ne.symm h)]
theorem setMap_touch (w : World) (b : Nat) (es : Array MapEntry) (c : Nat) : Wrote [b] w (setMap w b es c) :=
  ⟨rfl, rfl, rfl, by simp [setMap], fun k _ hk => setMap_other es c (by simpa using hk)⟩

section
variable {K V : Type} [DecidableEq K] {P : Program} {w w' : World} {b : Nat} {ek : K → Value} {ev : V → Value} {l : List (K × V)}

theorem modify_put (es : List MapEntry) (l : List (K × V)) (he : es.map (fun e => (e.key, e.val)) = l.map fun p => (ek p.1, ev p.2)) (x : K) (v : V) (i : Nat)
    (hi : (l.map (·.1)).findIdx? (· == x) = some i) : (es.modify i fun e : MapEntry => { e with key := ek x, val := ev v }).map (fun e => (e.key, e.val)) = (aput l x v).map fun p => (ek p.1, ev p.2) := by
  induction l generalizing es i with
  | nil => simp at hi
  | cons p r ih =>
    cases es with
    | nil => simp at he
    | cons e es =>
      simp only [List.map_cons, List.cons.injEq, Prod.mk.injEq] at he
      simp only [List.map_cons, List.findIdx?_cons, beq_iff_eq] at hi
      unfold aput
      by_cases h : p.1 = x
      · simp only [h, if_true, Option.some.injEq] at hi
        subst hi
        simp [h, he.2]
      · simp only [h, if_false, Option.map_eq_some_iff] at hi
        obtain ⟨j, hj, rfl⟩ := hi
        simp only [beq_iff_eq, h, if_false, List.map_cons]
        rw [List.modify_succ_cons, List.map_cons, ih es he.2 j hj]
        simp [he.1]

theorem put_none (es : List MapEntry) (l : List (K × V)) (he : es.map (fun e => (e.key, e.val)) = l.map fun p => (ek p.1, ev p.2)) (x : K) (v : V) (c : Nat)
    (hi : (l.map (·.1)).findIdx? (· == x) = none) : (es ++ [({ key := ek x, val := ev v, born := c } : MapEntry)]).map (fun e => (e.key, e.val)) = (aput l x v).map fun p => (ek p.1, ev p.2) := by
  have hg : aget l x = none := by
    rw [aget_none]
    intro p hp e
    have := (List.findIdx?_eq_none_iff.1 hi) p.1 (List.mem_map.2 ⟨p, hp, rfl⟩)
    simp [e] at this
  rw [keys_aput_none v hg]
  simp [he]

theorem MapAt.update {t e : TypeId} {k : TypeId} (h : MapAt w b ek ev l) (hk : KeyOk P k ek) (ht : P.underlying t = some (.map k e)) (x : K) (v : V) :
    ∃ w', (Instr.mapUpdate t (.map (some b)) (ek x) (ev v)).run P w = .ok () w' ∧ MapAt w' b ek ev (aput l x v) ∧ Wrote [b] w w' := by
  obtain ⟨hn, es, c, hh, he, hst⟩ := h
  have hb := lt_of_heap hh
  have h2 := hk.find w x es.toList _ (keys_of es.toList he)
  unfold Instr.mapUpdate
  simp only [Sem.run_bind, run_underlying ht, Result.andThen_ok, getObj, Sem.run, hh, hk.check, h2]
  cases hi : (l.map (·.1)).findIdx? (· == x) with
  | none =>
    refine ⟨setMap w b (es.push { key := ek x, val := ev v, born := c }) (c + 1), ?_, ⟨nodup_aput x v hn, _, _, setMap_same _ _ hb, ?_, ?_⟩, setMap_touch _ _ _ _⟩
    · simp [setObj, Sem.run, hh, setMap]
    · rw [Array.toList_push]; exact put_none es.toList l he x v c hi
    · refine MapKept.stamped_push hst (fun y hy e => ?_)
      have h3 : y.key ∈ (l.map (·.1)).map ek := by
        rw [← keys_of es.toList he]
        exact List.mem_map.2 ⟨y, hy, rfl⟩
      obtain ⟨k', hk', e'⟩ := List.mem_map.1 h3
      have := (List.findIdx?_eq_none_iff.1 hi) k' hk'
      simp [hk.inj w (e'.trans e)] at this
  | some i =>
    have hlen : es.toList.length = l.length := by have := congrArg List.length he; simpa using this
    have hil : i < es.toList.length := by
      have := (List.findIdx?_eq_some_iff_getElem.1 hi).1
      simp at this
      omega
    have hii : es.toList[i]? = some (es.toList[i]) := List.getElem?_eq_getElem hil
    have hkx : es.toList[i].key = ek x := by
      have hx := (List.findIdx?_eq_some_iff_getElem.1 hi)
      obtain ⟨hlt, hx, _⟩ := hx
      simp at hx
      have h3 : (es.toList.map (·.key))[i]? = ((l.map (·.1)).map ek)[i]? := by rw [keys_of es.toList he]
      rw [List.getElem?_map, hii, List.getElem?_map, List.getElem?_eq_getElem hlt] at h3
      simp only [Option.map_some, Option.some.injEq] at h3
      rw [h3]
      congr 1
      simpa using hx
    refine ⟨setMap w b (es.modify i fun e => { e with key := ek x, val := ev v }) c, ?_, ⟨nodup_aput x v hn, _, _, setMap_same _ _ hb, ?_, MapKept.stamped_modify hst i _ (fun _ _ => rfl) (fun y _ hy => ?_)⟩, setMap_touch _ _ _ _⟩
    rotate_left 2
    · have hy' : es.toList[i]? = some y := by simpa using hy
      rw [hii] at hy'
      cases hy'
      exact hkx.symm
    · have hk2 : ((es[i]?).map (·.key)).getD (ek x) = ek x := by
        rw [← Array.getElem?_toList, hii]; simpa using hkx
      simp only [Option.bind_some, hii, Option.map_some, Instr.keyThatStays, hk2, hk.stays, if_true, Sem.run_bind, Sem.run_pure, Result.andThen_ok]
      simp [setObj, Sem.run, hh, setMap]
    · rw [Array.toList_modify]; exact modify_put es.toList l he x v i hi

theorem erase_del (es : List MapEntry) (l : List (K × V)) (he : es.map (fun e => (e.key, e.val)) = l.map fun p => (ek p.1, ev p.2)) (hn : (l.map (·.1)).Nodup) (x : K) (i : Nat)
    (hi : (l.map (·.1)).findIdx? (· == x) = some i) : (es.eraseIdx i).map (fun e => (e.key, e.val)) = (adel l x).map fun p => (ek p.1, ev p.2) := by
  induction l generalizing es i with
  | nil => simp at hi
  | cons p r ih =>
    cases es with
    | nil => simp at he
    | cons e es =>
      simp only [List.map_cons, List.cons.injEq, Prod.mk.injEq] at he
      simp only [List.map_cons, List.findIdx?_cons, beq_iff_eq] at hi
      simp only [List.map_cons, List.nodup_cons] at hn
      by_cases h : p.1 = x
      · simp only [h, if_true, Option.some.injEq] at hi
        subst hi
        have hr : adel r x = r := by
          unfold adel
          rw [List.filter_eq_self]
          intro q hq
          have : q.1 ≠ x := fun e => hn.1 (List.mem_map.2 ⟨q, hq, e.trans h.symm⟩)
          simpa using this
        have : adel (p :: r) x = r := by
          rw [← hr]
          unfold adel
          rw [List.filter_cons, if_neg (by simp [h]), List.filter_filter]
          simp
        rw [this]
        simpa using he.2
      · simp only [h, if_false, Option.map_eq_some_iff] at hi
        obtain ⟨j, hj, rfl⟩ := hi
        have h3 : adel (p :: r) x = p :: adel r x := by
          unfold adel
          rw [List.filter_cons, if_pos (by simpa using h)]
        rw [h3, List.eraseIdx_cons_succ, List.map_cons, List.map_cons, ih es he.2 hn.2 j hj]
        simp [he.1]

theorem adel_none {l : List (K × V)} {x : K} (hi : (l.map (·.1)).findIdx? (· == x) = none) : adel l x = l := by
  unfold adel
  rw [List.filter_eq_self]
  intro p hp
  have := (List.findIdx?_eq_none_iff.1 hi) p.1 (List.mem_map.2 ⟨p, hp, rfl⟩)
  simpa using this

theorem MapAt.delete {t e ty t2 : TypeId} {k : TypeId} (h : MapAt w b ek ev l) (hk : KeyOk P k ek) (ht : P.underlying t = some (.map k e)) (x : K) :
    ∃ w', (Builtin.delete_ #[t, t2] ty #[.map (some b), ek x]).run P w = .ok (.tuple #[]) w' ∧ MapAt w' b ek ev (adel l x) ∧ Wrote [b] w w' := by
  obtain ⟨hn, es, c, hh, he, hst⟩ := h
  have hb := lt_of_heap hh
  have h2 := hk.find w x es.toList _ (keys_of es.toList he)
  unfold Builtin.delete_
  simp only [List.getElem?_toArray, List.getElem?_cons_zero, List.getElem?_cons_succ, Sem.run_bind, run_underlying ht, Result.andThen_ok, getObj, Sem.run, hh, hk.check, h2]
  cases hi : (l.map (·.1)).findIdx? (· == x) with
  | none =>
    refine ⟨setMap w b es c, ?_, ⟨nodup_filter _ hn, _, _, setMap_same _ _ hb, ?_, hst⟩, setMap_touch _ _ _ _⟩
    · simp [setObj, Sem.run, hh, setMap]
    · rw [adel_none hi]; exact he
  | some i =>
    have hlen : es.toList.length = l.length := by have := congrArg List.length he; simpa using this
    have hil : i < es.toList.length := by
      have := (List.findIdx?_eq_some_iff_getElem.1 hi).1
      simp at this
      omega
    have hii : es.toList[i]? = some (es.toList[i]) := List.getElem?_eq_getElem hil
    refine ⟨setMap w b (es.eraseIdxIfInBounds i) c, ?_, ⟨nodup_filter _ hn, _, _, setMap_same _ _ hb, ?_, MapKept.stamped_erase hst i⟩, setMap_touch _ _ _ _⟩
    · simp only [Option.bind_some, hii, Option.map_some]
      simp [setObj, Sem.run, hh, setMap]
    · have : (es.eraseIdxIfInBounds i).toList = es.toList.eraseIdx i := by simp
      rw [this]; exact erase_del es.toList l he hn x i hi

theorem MapAt.clear {t ty : TypeId} {d : TypeDesc} (h : MapAt w b ek ev l) (ht : P.underlying t = some d) :
    ∃ w', (Builtin.clear_ #[t] ty #[.map (some b)]).run P w = .ok (.tuple #[]) w' ∧ MapAt w' b ek ev [] ∧ Wrote [b] w w' := by
  obtain ⟨hn, es, c, hh, he, hst⟩ := h
  have hb := lt_of_heap hh
  refine ⟨setMap w b #[] c, ?_, ⟨by simp, _, _, setMap_same _ _ hb, rfl, MapKept.stamped_empty c⟩, setMap_touch _ _ _ _⟩
  unfold Builtin.clear_
  simp only [List.getElem?_toArray, List.getElem?_cons_zero, Sem.run_bind, run_underlying ht, Result.andThen_ok]
  simp [getObj, setObj, Sem.run, hh, setMap]
end
end Go.My
