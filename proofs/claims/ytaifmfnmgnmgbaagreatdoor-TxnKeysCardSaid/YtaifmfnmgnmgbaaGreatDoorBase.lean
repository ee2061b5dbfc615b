/- General laws: maps as association lists, the frame of a call that writes to some blocks of its own. Nothing here names a program. and more. -/
import Derived.Maps.Keyed
import Derived.Carry
import Derived.OwnWalk
import Derived.Below
import Derived.Laws.StructEq
import Derived.Deep.Draws
import Derived.MapKept
import Derived.WalkKit
import Derived.Maps.Own
import Derived.Maps.OwnOps
import Derived.Maps.OwnSet
import Derived.StillTailTactics
import Derived.Deep.QuietTactic
import Derived.BigQuiet
import Derived.StillTail
import Derived.WalkLawsBesides
import Derived.Lib.Bytealg
import Derived.Lib.Strings
import Derived.Deep.Slices
import Derived.Deep.Fields
import Derived.Lib.SlBytesRow
import Derived.Deep.AppendLies
import Derived.Laws.OwnMore
import Derived.Sort.KeysCollected
import Derived.SizedLaws
/- General laws: maps as association lists, the frame of a call that writes to some blocks of its own. Nothing here names a program. -/
namespace Go.My
open Go.RowKit

/-! ### association lists -/
section assoc
variable {K V : Type} [DecidableEq K]
def aget (l : List (K × V)) (k : K) : Option V := (l.find? fun p => p.1 == k).map (·.2)
def aput (l : List (K × V)) (k : K) (v : V) : List (K × V) :=
  match l with
  | [] => [(k, v)]
  | p :: r => if p.1 == k then (k, v) :: r else p :: aput r k v
def adel (l : List (K × V)) (k : K) : List (K × V) := l.filter fun p => !(p.1 == k)

theorem aget_nil (k : K) : aget ([] : List (K × V)) k = none := rfl
theorem aget_cons (p : K × V) (l : List (K × V)) (k : K) : aget (p :: l) k = if p.1 = k then some p.2 else aget l k := by
  unfold aget
  by_cases h : p.1 = k <;> simp [h]
theorem aget_aput (l : List (K × V)) (k k' : K) (v : V) : aget (aput l k v) k' = if k = k' then some v else aget l k' := by
  induction l with
  | nil => simp [aput, aget_cons, aget_nil]
  | cons p r ih =>
    unfold aput
    by_cases h : p.1 = k
    · simp only [h, beq_self_eq_true, if_true, aget_cons]
      split <;> rfl
    · simp only [beq_iff_eq, h, if_false, aget_cons, ih]
      by_cases h2 : p.1 = k'
      · have : ¬ k = k' := fun e => h (h2.trans e.symm)
        simp [h2, this]
      · simp [h2]
theorem aget_none {l : List (K × V)} {k : K} : aget l k = none ↔ ∀ p ∈ l, p.1 ≠ k := by
  simp [aget]
theorem aget_some_mem {l : List (K × V)} {k : K} {v : V} (h : aget l k = some v) : (k, v) ∈ l := by
  induction l with
  | nil => simp [aget_nil] at h
  | cons p r ih =>
    rw [aget_cons] at h
    split at h
    · rename_i e; cases h; subst e; simp
    · simp [ih h]
theorem mem_aput {l : List (K × V)} {k : K} {v : V} {p : K × V} (h : p ∈ aput l k v) : p = (k, v) ∨ p ∈ l := by
  induction l with
  | nil => simpa [aput] using h
  | cons q r ih =>
    unfold aput at h
    split at h
    · rcases List.mem_cons.1 h with h | h
      · exact .inl h
      · exact .inr (by simp [h])
    · rcases List.mem_cons.1 h with h | h
      · exact .inr (by simp [h])
      · rcases ih h with h | h
        · exact .inl h
        · exact .inr (by simp [h])
theorem keys_aput_none {l : List (K × V)} {k : K} (v : V) (h : aget l k = none) : aput l k v = l ++ [(k, v)] := by
  induction l with
  | nil => rfl
  | cons p r ih =>
    rw [aget_cons] at h
    split at h
    · cases h
    · rename_i hne
      unfold aput
      rw [if_neg (by simpa using hne), ih h]
      rfl
theorem keys_aput_some {l : List (K × V)} {k : K} (v : V) (h : aget l k ≠ none) : (aput l k v).map (·.1) = l.map (·.1) := by
  induction l with
  | nil => simp [aget_nil] at h
  | cons p r ih =>
    rw [aget_cons] at h
    unfold aput
    split at h
    · rename_i e; simp [e]
    · rename_i hne
      rw [if_neg (by simpa using hne)]
      simp [ih h]
theorem nodup_aput {l : List (K × V)} (k : K) (v : V) (h : (l.map (·.1)).Nodup) : ((aput l k v).map (·.1)).Nodup := by
  cases hg : aget l k with
  | none =>
    rw [keys_aput_none v hg, List.map_append]
    refine List.nodup_append.2 ⟨h, by simp, ?_⟩
    intro a ha b hb
    simp at hb
    subst hb
    obtain ⟨p, hp, rfl⟩ := List.mem_map.1 ha
    exact aget_none.1 hg p hp
  | some x => rw [keys_aput_some v (by simp [hg])]; exact h
theorem nodup_filter {A B : Type} {l : List (A × B)} (f : A × B → Bool) (h : (l.map (·.1)).Nodup) : ((l.filter f).map (·.1)).Nodup :=
  h.sublist (List.Sublist.map _ List.filter_sublist)
theorem length_aput_none {l : List (K × V)} {k : K} (v : V) (h : aget l k = none) : (aput l k v).length = l.length + 1 := by
  rw [keys_aput_none v h]; simp
theorem length_aput_some {l : List (K × V)} {k : K} (v : V) (h : aget l k ≠ none) : (aput l k v).length = l.length := by
  have := congrArg List.length (keys_aput_some v h); simpa using this
theorem aget_filter {l : List (K × V)} (f : K → Bool) (k : K) : aget (l.filter fun p => f p.1) k = if f k then aget l k else none := by
  induction l with
  | nil => simp [aget_nil]
  | cons p r ih =>
    rw [List.filter_cons]
    by_cases hp : f p.1 = true
    · rw [if_pos hp, aget_cons, aget_cons, ih]
      by_cases e : p.1 = k
      · subst e; simp [hp]
      · simp [e]
    · rw [if_neg hp, ih, aget_cons]
      by_cases e : p.1 = k
      · subst e; simp [hp]
      · simp [e]
theorem aget_mem {l : List (K × V)} (hn : (l.map (·.1)).Nodup) {k : K} {v : V} (h : (k, v) ∈ l) : aget l k = some v := by
  induction l with
  | nil => simp at h
  | cons p r ih =>
    simp only [List.map_cons, List.nodup_cons] at hn
    rw [aget_cons]
    rcases List.mem_cons.1 h with rfl | h
    · simp
    · rw [if_neg, ih hn.2 h]
      intro e
      exact hn.1 (List.mem_map.2 ⟨_, h, e.symm⟩)
end assoc

/-! ### the frame of a call that writes to the blocks of a list -/
structure Wrote (S : List Nat) (w w' : World) : Prop where
  os : w'.os = w.os
  tape : w'.tape = w.tape
  output : w'.output = w.output
  size : w.heap.size ≤ w'.heap.size
  block : ∀ k, k < w.heap.size → k ∉ S → w'.heap[k]? = w.heap[k]?

section
variable {S T : List Nat} {w w' w'' : World}
theorem Wrote.refl (S : List Nat) (w : World) : Wrote S w w := ⟨rfl, rfl, rfl, Nat.le_refl _, fun _ _ _ => rfl⟩
theorem Wrote.trans (h : Wrote S w w') (k : Wrote S w' w'') : Wrote S w w'' :=
  ⟨k.os.trans h.os, k.tape.trans h.tape, k.output.trans h.output, Nat.le_trans h.size k.size,
    fun i hi hn => (k.block i (Nat.lt_of_lt_of_le hi h.size) hn).trans (h.block i hi hn)⟩
theorem Wrote.mono (h : Wrote S w w') (hs : ∀ k ∈ S, k ∈ T) : Wrote T w w' :=
  ⟨h.os, h.tape, h.output, h.size, fun i hi hn => h.block i hi (fun hk => hn (hs i hk))⟩
/-- blocks that are new may be written, too -/
theorem Wrote.of_new (h : Wrote S w w') (hs : ∀ k ∈ S, k ∈ T ∨ w.heap.size ≤ k) : Wrote T w w' :=
  ⟨h.os, h.tape, h.output, h.size, fun i hi hn => h.block i hi (fun hk => by rcases hs i hk with h | h; exact hn h; omega)⟩
theorem Wrote.drew (h : Wrote S w w') : Wrote S w w'.drew := ⟨h.os, h.tape, h.output, h.size, h.block⟩
theorem Wrote.drewN (h : Wrote S w w') (n : Nat) : Wrote S w (w'.drewN n) := ⟨h.os, h.tape, h.output, h.size, h.block⟩
theorem Wrote.alloc (h : Wrote S w w') (o : Obj) : Wrote S w (w'.alloc o) :=
  ⟨h.os, h.tape, h.output, Nat.le_trans h.size (by simp), fun i hi hn => (Below.heap_alloc w' o i (Nat.lt_of_lt_of_le hi h.size)).trans (h.block i hi hn)⟩
theorem Wrote.setCell (h : Wrote S w w') {p : Addr} (hp : p.block ∈ S ∨ w.heap.size ≤ p.block) (u : Value) : Wrote S w (w'.setCell p u) :=
  ⟨h.os, h.tape, h.output, by simpa [World.setCell] using h.size, fun i hi hn => (Below.heap_setCell w' p u i (by
    rintro rfl
    rcases hp with hp | hp
    · exact hn hp
    · omega)).trans (h.block i hi hn)⟩
theorem Wrote.below {N : Nat} (h : Wrote S w w') (hN : N ≤ w.heap.size) (hS : ∀ k ∈ S, N ≤ k) : Below N w w' :=
  ⟨h.os, h.tape, h.output, h.size, fun k hk => h.block k (by omega) (fun hm => by have := hS k hm; omega)⟩
theorem Wrote.of_below (h : Below w.heap.size w w') : Wrote S w w' := ⟨h.os, h.tape, h.output, h.size, fun k hk _ => h.block k hk⟩
theorem Wrote.cell (h : Wrote S w w') {p : Addr} (hp : p.block < w.heap.size) (hn : p.block ∉ S) : w'.cell? p = w.cell? p := World.cell?_of_block (h.block _ hp hn)
theorem Wrote.heap {k : Nat} {o : Obj} (h : Wrote S w w') (hk : w.heap[k]? = some o) (hn : k ∉ S) : w'.heap[k]? = some o := by
  rw [h.block k (Array.getElem?_eq_some_iff.1 hk).1 hn, hk]
theorem Wrote.grown {row : Option Nat} (h : Wrote S w w') (hg : w'.grownBy w'' row) (hr : ∀ k, row = some k → k ∈ S ∨ w.heap.size ≤ k) : Wrote S w w'' :=
  ⟨hg.os.trans h.os, hg.tape.trans h.tape, hg.output.trans h.output, Nat.le_trans h.size hg.size,
    fun i hi hn => (hg.block i (Nat.lt_of_lt_of_le hi h.size) (fun e => by rcases hr i e.symm with h | h; exact hn h; omega)).trans (h.block i hi hn)⟩
end

theorem lt_of_heap {w : World} {k : Nat} {o : Obj} (h : w.heap[k]? = some o) : k < w.heap.size := (Array.getElem?_eq_some_iff.1 h).1

/-! ### a key's type -/
structure KeyOk {K : Type} [DecidableEq K] (P : Program) (k : TypeId) (ek : K → Value) : Prop where
  check : ∀ (w : World) (em : Bool) (x : K), (Instr.checkKey em 10000 k (ek x)).run P w = .ok () w
  find : ∀ (w : World) (x : K) (es : List MapEntry) (ks : List K), es.map (·.key) = ks.map ek →
    (Instr.findKey k (ek x) es).run P w = .ok ((ks.findIdx? (· == x)).bind fun i => (es[i]?).map fun e => (i, e.val)) w
  stays : ∀ x : K, Instr.sameBits 10000 (ek x) (ek x) = true

section
variable {K : Type} [DecidableEq K] {P : Program} {k : TypeId} {ek : K → Value}

theorem find_now (d : TypeDesc) (hs : ∀ x y : K, Instr.sameNow d (ek x) (ek y) = some (decide (x = y))) (x : K) :
    ∀ (es : List MapEntry) (ks : List K) (i : Nat), es.map (·.key) = ks.map ek →
      Instr.findNow d (ek x) es i = some ((ks.findIdx? (· == x)).bind fun j => (es[j]?).map fun e => (i + j, e.val))
  | [], [], i, _ => by simp [Instr.findNow]
  | [], _ :: _, _, h => by simp at h
  | _ :: _, [], _, h => by simp at h
  | e :: es, y :: ks, i, h => by
    simp only [List.map_cons, List.cons.injEq] at h
    unfold Instr.findNow
    rw [h.1, hs x y]
    by_cases hxy : x = y
    · subst hxy; simp [List.findIdx?_cons]
    · have hyx : ¬ y = x := fun e => hxy e.symm
      simp only [hxy, decide_false]
      rw [find_now d hs x es ks (i + 1) h.2]
      simp only [List.findIdx?_cons, beq_iff_eq, hyx, if_false]
      cases ks.findIdx? (· == x) with
      | none => rfl
      | some j => simp [Nat.add_assoc, Nat.add_comm 1 j]

theorem find_asking (heq : ∀ (w : World) (x y : K), (Op.equal k (ek x) (ek y)).run P w = .ok (decide (x = y)) w) (x : K) (w : World) :
    ∀ (es : List MapEntry) (ks : List K) (i : Nat), es.map (·.key) = ks.map ek →
      (Instr.findAsking k (ek x) es i).run P w = .ok ((ks.findIdx? (· == x)).bind fun j => (es[j]?).map fun e => (i + j, e.val)) w
  | [], [], i, _ => by simp [Instr.findAsking]
  | [], _ :: _, _, h => by simp at h
  | _ :: _, [], _, h => by simp at h
  | e :: es, y :: ks, i, h => by
    simp only [List.map_cons, List.cons.injEq] at h
    unfold Instr.findAsking
    simp only [Sem.run_bind, h.1, heq w x y, Result.andThen_ok]
    by_cases hxy : x = y
    · subst hxy; simp [List.findIdx?_cons]
    · have hyx : ¬ y = x := fun e => hxy e.symm
      simp only [hxy, decide_false, Bool.false_eq_true, if_false]
      rw [find_asking heq x w es ks (i + 1) h.2]
      simp only [List.findIdx?_cons, beq_iff_eq, hyx, if_false]
      cases ks.findIdx? (· == x) with
      | none => rfl
      | some j => simp [Nat.add_assoc, Nat.add_comm 1 j]

theorem KeyOk.ofNow (d : TypeDesc) (hk : P.underlying k = some d) (hs : ∀ x y : K, Instr.sameNow d (ek x) (ek y) = some (decide (x = y)))
    (hc : ∀ (w : World) (em : Bool) (x : K), (Instr.checkKey em 10000 k (ek x)).run P w = .ok () w) (hst : ∀ x : K, Instr.sameBits 10000 (ek x) (ek x) = true) : KeyOk P k ek := by
  refine ⟨hc, fun w x es ks h => ?_, hst⟩
  unfold Instr.findKey
  simp only [Sem.run_bind, run_underlying hk, Result.andThen_ok]
  rw [find_now d hs x es ks 0 h]
  simp

theorem KeyOk.ofAsk (d : TypeDesc) (hk : P.underlying k = some d) (hs : ∀ (es : List MapEntry) (x y : K) (v : Value) (b : Nat), Instr.findNow d (ek x) ({ key := ek y, val := v, born := b } :: es) 0 = none)
    (heq : ∀ (w : World) (x y : K), (Op.equal k (ek x) (ek y)).run P w = .ok (decide (x = y)) w)
    (hc : ∀ (w : World) (em : Bool) (x : K), (Instr.checkKey em 10000 k (ek x)).run P w = .ok () w) (hst : ∀ x : K, Instr.sameBits 10000 (ek x) (ek x) = true) : KeyOk P k ek := by
  refine ⟨hc, fun w x es ks h => ?_, hst⟩
  unfold Instr.findKey
  simp only [Sem.run_bind, run_underlying hk, Result.andThen_ok]
  cases es with
  | nil =>
    cases ks with
    | nil => simp [Instr.findNow]
    | cons _ _ => simp at h
  | cons e es =>
    cases ks with
    | nil => simp at h
    | cons y ks =>
      have hey : e.key = ek y := by simp at h; exact h.1
      have h0 := hs es x y e.val e.born
      rw [← hey] at h0
      rw [h0]
      simpa using find_asking heq x w (e :: es) (y :: ks) 0 h

/-- unlike keys are unlike values -/
theorem KeyOk.inj (h : KeyOk P k ek) (w0 : World) {x y : K} (he : ek x = ek y) : x = y := by
  have h1 := h.find w0 x [{ key := ek y, val := .bool true, born := 0 }] [y] rfl
  have h2 := h.find w0 y [{ key := ek y, val := .bool true, born := 0 }] [y] rfl
  rw [he, h2] at h1
  by_cases hxy : y = x
  · exact hxy.symm
  · simp [List.findIdx?_cons, hxy] at h1
/-- keys of an integer's kind -/
theorem key_int {q : IntKind} (hk : P.underlying k = some (.int q)) : KeyOk P k (fun n : Int => .int q n) := by
  refine KeyOk.ofNow (.int q) hk (fun x y => by simp [Instr.sameNow]; rfl) (fun w em x => ?_) (fun x => by simp [Instr.sameBits])
  unfold Instr.checkKey
  simp [run_underlying hk]
theorem bytes_beq (x y : ByteArray) : (x == y) = decide (x = y) := by
  obtain ⟨a⟩ := x
  obtain ⟨b⟩ := y
  by_cases h : a = b
  · subst h
    have e : ((⟨a⟩ : ByteArray) == ⟨a⟩) = (a == a) := rfl
    rw [e]
    simp
  · have e : ((⟨a⟩ : ByteArray) == ⟨b⟩) = (a == b) := rfl
    rw [e]
    simp [h]
theorem key_string (hk : P.underlying k = some .string) : KeyOk P k (fun s : ByteArray => .string s) := by
  refine KeyOk.ofNow .string hk (fun x y => by simp [Instr.sameNow, bytes_beq]) (fun w em x => ?_) (fun x => by simp [Instr.sameBits, bytes_beq])
  unfold Instr.checkKey
  simp [run_underlying hk]
end

/-! ### a map that reads as an association list -/
def MapAt {K V : Type} [DecidableEq K] (w : World) (b : Nat) (ek : K → Value) (ev : V → Value) (l : List (K × V)) : Prop :=
  (l.map (·.1)).Nodup ∧ ∃ es clock, w.heap[b]? = some (.map es clock) ∧ es.toList.map (fun e => (e.key, e.val)) = (l.map fun p => (ek p.1, ev p.2)) ∧ MapKept.Stamped es clock

section
variable {K V : Type} [DecidableEq K] {P : Program} {w w' : World} {b : Nat} {ek : K → Value} {ev : V → Value} {l : List (K × V)}

theorem MapAt.lt (h : MapAt w b ek ev l) : b < w.heap.size := by
  obtain ⟨_, es, c, hb, _⟩ := h
  exact lt_of_heap hb
theorem MapAt.nodup (h : MapAt w b ek ev l) : (l.map (·.1)).Nodup := h.1
theorem MapAt.keep (h : MapAt w b ek ev l) (hb : w'.heap[b]? = w.heap[b]?) : MapAt w' b ek ev l := by
  obtain ⟨hn, es, c, hh, he⟩ := h
  exact ⟨hn, es, c, hb.trans hh, he⟩
theorem MapAt.touch {S : List Nat} (h : MapAt w b ek ev l) (ht : Wrote S w w') (hb : b ∉ S) : MapAt w' b ek ev l := h.keep (ht.block b h.lt hb)
theorem MapAt.drew (h : MapAt w b ek ev l) : MapAt w.drew b ek ev l := h
theorem MapAt.drewN (h : MapAt w b ek ev l) (n : Nat) : MapAt (w.drewN n) b ek ev l := h
theorem MapAt.alloc (h : MapAt w b ek ev l) (o : Obj) : MapAt (w.alloc o) b ek ev l := h.keep (Below.heap_alloc w o b h.lt)
theorem MapAt.new (w : World) (ek : K → Value) (ev : V → Value) : MapAt (w.alloc (.map #[] 0)) w.heap.size ek ev [] :=
  ⟨by simp, #[], 0, heap_alloc_new w _, rfl, MapKept.stamped_empty 0⟩
theorem MapAt.ne_cells {g : Nat} {cs : Array Value} {t : TypeId} {f : Nat × Nat} (h : MapAt w b ek ev l) (hg : w.heap[g]? = some (.cells cs t f)) : b ≠ g := by
  rintro rfl
  obtain ⟨_, es, c, hb, _⟩ := h
  rw [hb] at hg
  cases hg

/-- what 'find' finds -/
theorem find_get (l : List (K × V)) (ev : V → Value) (ek : K → Value) (es : List MapEntry) (he : es.map (fun e => (e.key, e.val)) = l.map fun p => (ek p.1, ev p.2)) (x : K) :
    ((((l.map (·.1)).findIdx? (· == x)).bind fun i => (es[i]?).map fun e => (i, e.val)).map (·.2)) = (aget l x).map ev := by
  induction l generalizing es with
  | nil => simp [aget_nil]
  | cons p r ih =>
    cases es with
    | nil => simp at he
    | cons e es =>
      simp only [List.map_cons, List.cons.injEq, Prod.mk.injEq] at he
      rw [aget_cons]
      simp only [List.map_cons, List.findIdx?_cons, beq_iff_eq]
      by_cases h : p.1 = x
      · simp [h, he.1.2]
      · simp only [h, if_false]
        rw [← ih es he.2]
        cases (r.map (·.1)).findIdx? (· == x) with
        | none => rfl
        | some j => cases hj : es[j]? <;> simp [hj]

theorem keys_of {A B : Type} {l : List (A × B)} {ek : A → Value} {ev : B → Value} (es : List MapEntry) (he : es.map (fun e => (e.key, e.val)) = l.map fun p => (ek p.1, ev p.2)) : es.map (·.key) = (l.map (·.1)).map ek := by
  have := congrArg (List.map Prod.fst) he
  simpa [List.map_map, Function.comp_def] using this

theorem MapAt.lookup {t e : TypeId} {k : TypeId} (h : MapAt w b ek ev l) (hk : KeyOk P k ek) (ht : P.underlying t = some (.map k e)) {z : Value} (hz : (zeroValue e).run P w = .ok z w) (x : K) :
    (Instr.lookup t (.map (some b)) (ek x) true).run P w = .ok (.tuple #[((aget l x).map ev).getD z, .bool (aget l x).isSome]) w := by
  obtain ⟨_, es, c, hh, he, _⟩ := h
  unfold Instr.lookup
  have h1 := find_get l ev ek es.toList he x
  have h2 := hk.find w x es.toList _ (keys_of es.toList he)
  simp only [Sem.run_bind, run_underlying ht, Result.andThen_ok, getObj, Sem.run, hh, Sem.run_pure, hk.check, h2]
  generalize ((l.map (·.1)).findIdx? (· == x)).bind _ = r at h1
  cases r with
  | none =>
    have : aget l x = none := by cases hg : aget l x <;> simp_all
    simp [this, hz]
  | some y =>
    cases hg : aget l x with
    | none => simp [hg] at h1
    | some v =>
      simp [hg] at h1
      obtain ⟨i, u⟩ := y
      simp at h1
      simp [h1]

theorem MapAt.lookup1 {t e : TypeId} {k : TypeId} (h : MapAt w b ek ev l) (hk : KeyOk P k ek) (ht : P.underlying t = some (.map k e)) {z : Value} (hz : (zeroValue e).run P w = .ok z w) (x : K) :
    (Instr.lookup t (.map (some b)) (ek x) false).run P w = .ok (((aget l x).map ev).getD z) w := by
  obtain ⟨_, es, c, hh, he, _⟩ := h
  unfold Instr.lookup
  have h1 := find_get l ev ek es.toList he x
  have h2 := hk.find w x es.toList _ (keys_of es.toList he)
  simp only [Sem.run_bind, run_underlying ht, Result.andThen_ok, getObj, Sem.run, hh, Sem.run_pure, hk.check, h2]
  generalize ((l.map (·.1)).findIdx? (· == x)).bind _ = r at h1
  cases r with
  | none =>
    have : aget l x = none := by cases hg : aget l x <;> simp_all
    simp [this, hz]
  | some y =>
    cases hg : aget l x with
    | none => simp [hg] at h1
    | some v =>
      simp [hg] at h1
      obtain ⟨i, u⟩ := y
      simp at h1
      simp [h1]

theorem MapAt.len (h : MapAt w b ek ev l) : ∃ es clock, w.heap[b]? = some (.map es clock) ∧ es.size = l.length := by
  obtain ⟨_, es, c, hh, he, _⟩ := h
  refine ⟨es, c, hh, ?_⟩
  have := congrArg List.length he
  simpa using this
end

/-- the world with another map in a block -/
def setMap (w : World) (b : Nat) (es : Array MapEntry) (c : Nat) : World := { w with heap := w.heap.setIfInBounds b (.map es c) }
theorem setMap_same {w : World} {b : Nat} (es : Array MapEntry) (c : Nat) (h : b < w.heap.size) : (setMap w b es c).heap[b]? = some (.map es c) := by
  simp [setMap, h]
theorem setMap_other {w : World} {b k : Nat} (es : Array MapEntry) (c : Nat) (h : k ≠ b) : (setMap w b es c).heap[k]? = w.heap[k]? := by
  simp only [setMap]
  rw [Array.getElem?_setIfInBounds_ne (Ne.symm h)]
theorem setMap_touch (w : World) (b : Nat) (es : Array MapEntry) (c : Nat) : Wrote [b] w (setMap w b es c) :=
  ⟨rfl, rfl, rfl, by simp [setMap], fun k _ hk => setMap_other es c (by simpa using hk)⟩

section
variable {K V : Type} [DecidableEq K] {P : Program} {w w' : World} {b : Nat} {ek : K → Value} {ev : V → Value} {l : List (K × V)}

theorem modify_put (es : List MapEntry) (l : List (K × V)) (he : es.map (fun e => (e.key, e.val)) = l.map fun p => (ek p.1, ev p.2)) (x : K) (v : V) (i : Nat)
    (hi : (l.map (·.1)).findIdx? (· == x) = some i) : (es.modify i fun e : MapEntry => { e with key := ek x, val := ev v }).map (fun e => (e.key, e.val)) = (aput l x v).map fun p => (ek p.1, ev p.2) := by
  induction l generalizing es i with
  | nil => simp at hi
  | cons p r ih =>
    cases es with
    | nil => simp at he
    | cons e es =>
      simp only [List.map_cons, List.cons.injEq, Prod.mk.injEq] at he
      simp only [List.map_cons, List.findIdx?_cons, beq_iff_eq] at hi
      unfold aput
      by_cases h : p.1 = x
      · simp only [h, if_true, Option.some.injEq] at hi
        subst hi
        simp [h, he.2]
      · simp only [h, if_false, Option.map_eq_some_iff] at hi
        obtain ⟨j, hj, rfl⟩ := hi
        simp only [beq_iff_eq, h, if_false, List.map_cons]
        rw [List.modify_succ_cons, List.map_cons, ih es he.2 j hj]
        simp [he.1]

theorem put_none (es : List MapEntry) (l : List (K × V)) (he : es.map (fun e => (e.key, e.val)) = l.map fun p => (ek p.1, ev p.2)) (x : K) (v : V) (c : Nat)
    (hi : (l.map (·.1)).findIdx? (· == x) = none) : (es ++ [({ key := ek x, val := ev v, born := c } : MapEntry)]).map (fun e => (e.key, e.val)) = (aput l x v).map fun p => (ek p.1, ev p.2) := by
  have hg : aget l x = none := by
    rw [aget_none]
    intro p hp e
    have := (List.findIdx?_eq_none_iff.1 hi) p.1 (List.mem_map.2 ⟨p, hp, rfl⟩)
    simp [e] at this
  rw [keys_aput_none v hg]
  simp [he]

theorem MapAt.update {t e : TypeId} {k : TypeId} (h : MapAt w b ek ev l) (hk : KeyOk P k ek) (ht : P.underlying t = some (.map k e)) (x : K) (v : V) :
    ∃ w', (Instr.mapUpdate t (.map (some b)) (ek x) (ev v)).run P w = .ok () w' ∧ MapAt w' b ek ev (aput l x v) ∧ Wrote [b] w w' := by
  obtain ⟨hn, es, c, hh, he, hst⟩ := h
  have hb := lt_of_heap hh
  have h2 := hk.find w x es.toList _ (keys_of es.toList he)
  unfold Instr.mapUpdate
  simp only [Sem.run_bind, run_underlying ht, Result.andThen_ok, getObj, Sem.run, hh, hk.check, h2]
  cases hi : (l.map (·.1)).findIdx? (· == x) with
  | none =>
    refine ⟨setMap w b (es.push { key := ek x, val := ev v, born := c }) (c + 1), ?_, ⟨nodup_aput x v hn, _, _, setMap_same _ _ hb, ?_, ?_⟩, setMap_touch _ _ _ _⟩
    · simp [setObj, Sem.run, hh, setMap]
    · rw [Array.toList_push]; exact put_none es.toList l he x v c hi
    · refine MapKept.stamped_push hst (fun y hy e => ?_)
      have h3 : y.key ∈ (l.map (·.1)).map ek := by
        rw [← keys_of es.toList he]
        exact List.mem_map.2 ⟨y, hy, rfl⟩
      obtain ⟨k', hk', e'⟩ := List.mem_map.1 h3
      have := (List.findIdx?_eq_none_iff.1 hi) k' hk'
      simp [hk.inj w (e'.trans e)] at this
  | some i =>
    have hlen : es.toList.length = l.length := by have := congrArg List.length he; simpa using this
    have hil : i < es.toList.length := by
      have := (List.findIdx?_eq_some_iff_getElem.1 hi).1
      simp at this
      omega
    have hii : es.toList[i]? = some (es.toList[i]) := List.getElem?_eq_getElem hil
    have hkx : es.toList[i].key = ek x := by
      have hx := (List.findIdx?_eq_some_iff_getElem.1 hi)
      obtain ⟨hlt, hx, _⟩ := hx
      simp at hx
      have h3 : (es.toList.map (·.key))[i]? = ((l.map (·.1)).map ek)[i]? := by rw [keys_of es.toList he]
      rw [List.getElem?_map, hii, List.getElem?_map, List.getElem?_eq_getElem hlt] at h3
      simp only [Option.map_some, Option.some.injEq] at h3
      rw [h3]
      congr 1
      simpa using hx
    refine ⟨setMap w b (es.modify i fun e => { e with key := ek x, val := ev v }) c, ?_, ⟨nodup_aput x v hn, _, _, setMap_same _ _ hb, ?_, MapKept.stamped_modify hst i _ (fun _ _ => rfl) (fun y _ hy => ?_)⟩, setMap_touch _ _ _ _⟩
    rotate_left 2
    · have hy' : es.toList[i]? = some y := by simpa using hy
      rw [hii] at hy'
      cases hy'
      exact hkx.symm
    · have hk2 : ((es[i]?).map (·.key)).getD (ek x) = ek x := by
        rw [← Array.getElem?_toList, hii]; simpa using hkx
      simp only [Option.bind_some, hii, Option.map_some, Instr.keyThatStays, hk2, hk.stays, if_true, Sem.run_bind, Sem.run_pure, Result.andThen_ok]
      simp [setObj, Sem.run, hh, setMap]
    · rw [Array.toList_modify]; exact modify_put es.toList l he x v i hi

theorem erase_del (es : List MapEntry) (l : List (K × V)) (he : es.map (fun e => (e.key, e.val)) = l.map fun p => (ek p.1, ev p.2)) (hn : (l.map (·.1)).Nodup) (x : K) (i : Nat)
    (hi : (l.map (·.1)).findIdx? (· == x) = some i) : (es.eraseIdx i).map (fun e => (e.key, e.val)) = (adel l x).map fun p => (ek p.1, ev p.2) := by
  induction l generalizing es i with
  | nil => simp at hi
  | cons p r ih =>
    cases es with
    | nil => simp at he
    | cons e es =>
      simp only [List.map_cons, List.cons.injEq, Prod.mk.injEq] at he
      simp only [List.map_cons, List.findIdx?_cons, beq_iff_eq] at hi
      simp only [List.map_cons, List.nodup_cons] at hn
      by_cases h : p.1 = x
      · simp only [h, if_true, Option.some.injEq] at hi
        subst hi
        have hr : adel r x = r := by
          unfold adel
          rw [List.filter_eq_self]
          intro q hq
          have : q.1 ≠ x := fun e => hn.1 (List.mem_map.2 ⟨q, hq, e.trans h.symm⟩)
          simpa using this
        have : adel (p :: r) x = r := by
          rw [← hr]
          unfold adel
          rw [List.filter_cons, if_neg (by simp [h]), List.filter_filter]
          simp
        rw [this]
        simpa using he.2
      · simp only [h, if_false, Option.map_eq_some_iff] at hi
        obtain ⟨j, hj, rfl⟩ := hi
        have h3 : adel (p :: r) x = p :: adel r x := by
          unfold adel
          rw [List.filter_cons, if_pos (by simpa using h)]
        rw [h3, List.eraseIdx_cons_succ, List.map_cons, List.map_cons, ih es he.2 hn.2 j hj]
        simp [he.1]

theorem adel_none {l : List (K × V)} {x : K} (hi : (l.map (·.1)).findIdx? (· == x) = none) : adel l x = l := by
  unfold adel
  rw [List.filter_eq_self]
  intro p hp
  have := (List.findIdx?_eq_none_iff.1 hi) p.1 (List.mem_map.2 ⟨p, hp, rfl⟩)
  simpa using this

theorem MapAt.delete {t e ty t2 : TypeId} {k : TypeId} (h : MapAt w b ek ev l) (hk : KeyOk P k ek) (ht : P.underlying t = some (.map k e)) (x : K) :
    ∃ w', (Builtin.delete_ #[t, t2] ty #[.map (some b), ek x]).run P w = .ok (.tuple #[]) w' ∧ MapAt w' b ek ev (adel l x) ∧ Wrote [b] w w' := by
  obtain ⟨hn, es, c, hh, he, hst⟩ := h
  have hb := lt_of_heap hh
  have h2 := hk.find w x es.toList _ (keys_of es.toList he)
  unfold Builtin.delete_
  simp only [List.getElem?_toArray, List.getElem?_cons_zero, List.getElem?_cons_succ, Sem.run_bind, run_underlying ht, Result.andThen_ok, getObj, Sem.run, hh, hk.check, h2]
  cases hi : (l.map (·.1)).findIdx? (· == x) with
  | none =>
    refine ⟨setMap w b es c, ?_, ⟨nodup_filter _ hn, _, _, setMap_same _ _ hb, ?_, hst⟩, setMap_touch _ _ _ _⟩
    · simp [setObj, Sem.run, hh, setMap]
    · rw [adel_none hi]; exact he
  | some i =>
    have hlen : es.toList.length = l.length := by have := congrArg List.length he; simpa using this
    have hil : i < es.toList.length := by
      have := (List.findIdx?_eq_some_iff_getElem.1 hi).1
      simp at this
      omega
    have hii : es.toList[i]? = some (es.toList[i]) := List.getElem?_eq_getElem hil
    refine ⟨setMap w b (es.eraseIdxIfInBounds i) c, ?_, ⟨nodup_filter _ hn, _, _, setMap_same _ _ hb, ?_, MapKept.stamped_erase hst i⟩, setMap_touch _ _ _ _⟩
    · simp only [Option.bind_some, hii, Option.map_some]
      simp [setObj, Sem.run, hh, setMap]
    · have : (es.eraseIdxIfInBounds i).toList = es.toList.eraseIdx i := by simp
      rw [this]; exact erase_del es.toList l he hn x i hi

theorem MapAt.clear {t ty : TypeId} {d : TypeDesc} (h : MapAt w b ek ev l) (ht : P.underlying t = some d) :
    ∃ w', (Builtin.clear_ #[t] ty #[.map (some b)]).run P w = .ok (.tuple #[]) w' ∧ MapAt w' b ek ev [] ∧ Wrote [b] w w' := by
  obtain ⟨hn, es, c, hh, he, hst⟩ := h
  have hb := lt_of_heap hh
  refine ⟨setMap w b #[] c, ?_, ⟨by simp, _, _, setMap_same _ _ hb, rfl, MapKept.stamped_empty c⟩, setMap_touch _ _ _ _⟩
  unfold Builtin.clear_
  simp only [List.getElem?_toArray, List.getElem?_cons_zero, Sem.run_bind, run_underlying ht, Result.andThen_ok]
  simp [getObj, setObj, Sem.run, hh, setMap]
end
end Go.My
/- General laws: the operations on maps in the walk's own form. Nothing here names a program. -/
namespace Go.My
open Go.RowKit
section
variable {K V : Type} [DecidableEq K] {P : Program} {ek : K → Value} {ev : V → Value} {ops : Array Oper} {rest : List Oper} {o : Oper} {a : Act} {Q : Exit → Act → World → Prop}

theorem wpList_update (w : World) (hg : o.guard = none) (m x v : Operand) (t : TypeId) (hop : o.op = Op.mapUpdate t m x v) {k e : TypeId} (hk : KeyOk P k ek) (ht : P.underlying t = some (.map k e))
    (b : Nat) (l : List (K × V)) (hat : MapAt w b ek ev l) (hm : a.eval m = .map (some b)) (x' : K) (v' : V) (hx : a.eval x = ek x') (hv : a.eval v = ev v')
    (hK : ∀ w', MapAt w' b ek ev (aput l x' v') → Wrote [b] w w' → wpList P ops Q rest (a.put o.dst undef) w') : wpList P ops Q (o :: rest) a w := by
  refine wpList_plain hg fun K' hK' => ?_
  obtain ⟨w', hrun, h1, h2⟩ := hat.update hk ht x' v'
  unfold Oper.wp
  simp [execOp, hop, hm, hx, hv, hrun, Result.andThen]
  exact hK' _ _ (hK w' h1 h2)

theorem wpList_delete (w : World) (hg : o.guard = none) (m x : Operand) (t t2 : TypeId) (hop : o.op = Op.call { callee := Callee.builtin Builtin.delete, args := #[m, x], argTypes := #[t, t2] }) {k e : TypeId} (hk : KeyOk P k ek) (ht : P.underlying t = some (.map k e))
    (b : Nat) (l : List (K × V)) (hat : MapAt w b ek ev l) (hm : a.eval m = .map (some b)) (x' : K) (hx : a.eval x = ek x')
    (hK : ∀ w', MapAt w' b ek ev (adel l x') → Wrote [b] w w' → wpList P ops Q rest (a.put o.dst (.tuple #[])) w') : wpList P ops Q (o :: rest) a w := by
  refine wpList_plain hg fun K' hK' => ?_
  obtain ⟨w', hrun, h1, h2⟩ := hat.delete (ty := o.type) (t2 := t2) hk ht x'
  unfold Oper.wp
  simp [execOp, hop, resolve, invoke, builtin, hm, hx, hrun, Result.andThen]
  exact hK' _ _ (hK w' h1 h2)

theorem wpList_clear (w : World) (hg : o.guard = none) (m : Operand) (t : TypeId) (hop : o.op = Op.call { callee := Callee.builtin Builtin.clear, args := #[m], argTypes := #[t] }) {d : TypeDesc} (ht : P.underlying t = some d)
    (b : Nat) (l : List (K × V)) (hat : MapAt w b ek ev l) (hm : a.eval m = .map (some b))
    (hK : ∀ w', MapAt w' b ek ev ([] : List (K × V)) → Wrote [b] w w' → wpList P ops Q rest (a.put o.dst (.tuple #[])) w') : wpList P ops Q (o :: rest) a w := by
  refine wpList_plain hg fun K' hK' => ?_
  obtain ⟨w', hrun, h1, h2⟩ := hat.clear (ty := o.type) ht
  unfold Oper.wp
  simp [execOp, hop, resolve, invoke, builtin, hm, hrun, Result.andThen]
  exact hK' _ _ (hK w' h1 h2)

theorem lenMap_run {w : World} {b : Nat} {l : List (K × V)} (hat : MapAt w b ek ev l) {t ty : TypeId} {k e : TypeId} (ht : P.underlying t = some (.map k e)) :
    (Builtin.len_ #[t] ty #[.map (some b)]).run P w = .ok (.int .i64 (l.length : Int)) w := by
  obtain ⟨es, c, hh, hs⟩ := hat.len
  simp [Builtin.len_, run_underlying ht, getObj, Sem.run, hh, hs, goInt]

/-- a region that draws: reads, then a tail in one order -/
theorem wp_region_tail {id : Nat} {w : World} {l : List Oper} (n : Nat) (hm : P.follows .mixedOrders = true) (hB : Region.lexTailB .any l.toArray n = true)
    (h : wpStill P l.toArray w.drew (fun a' => wpList P l.toArray Q (l.drop n) a' w.drew) (l.take n) a) : (Code.region id l.toArray true).wp P Q a w := wp_region_still_tail n hm hB h
end
end Go.My
/- General: a region that draws its order, whose operations read, and whose callees read and make memory but write to nothing that was there. Nothing here names a program. -/
namespace Go.My
open Go.RowKit

/-- The worlds that hold all that a world held. -/
def Later (w : World) := { W : World // Below w.heap.size w W }
theorem Later.cell {w : World} (x : Later w) {b i : Nat} (h : b < w.heap.size) : x.1.cell? ⟨b, i, none⟩ = w.cell? ⟨b, i, none⟩ := x.2.cell (p := ⟨b, i, none⟩) h
theorem Later.here (w : World) : Nonempty (Later w) := ⟨⟨w, Below.refl _ _⟩⟩
def Later.on {w : World} (x : Later w) {W : World} (h : Below x.1.heap.size x.1 W) : Later w := ⟨W, x.2.trans (h.mono x.2.size)⟩

theorem wp_region_later {P : Program} {id : Nat} {Q : Exit → Act → World → Prop} {a : Act} {w : World} {l : List Oper} (hm : P.follows .mixedOrders = true) (hB : Region.lexB .any l.toArray = true)
    (h : wpQuiet P l.toArray (fun w' => ∃ x : Later w, w' = x.1) (fun a' => ∀ x : Later w, Q .normal a' x.1) l a) : (Code.region id l.toArray true).wp P Q a w := by
  refine wp_region_quiet (C := fun w' => ∃ x : Later w, w' = x.1) hm hB ⟨⟨w.drew, (Below.refl _ _).drew⟩, rfl⟩ ?_
  have mono : ∀ (m : List Oper) (b : Act), wpQuiet P l.toArray (fun w' => ∃ x : Later w, w' = x.1) (fun a' => ∀ x : Later w, Q .normal a' x.1) m b →
      wpQuiet P l.toArray (fun w' => ∃ x : Later w, w' = x.1) (fun a' => ∀ w', (∃ x : Later w, w' = x.1) → Q .normal a' w') m b := by
    intro m
    induction m with
    | nil => rintro b hb w' ⟨x, rfl⟩; exact hb x
    | cons o r ih =>
      intro b hb
      unfold wpQuiet at hb ⊢
      split
      · rename_i hw
        rw [if_pos hw] at hb
        obtain ⟨v, h1, h2⟩ := hb
        exact ⟨v, h1, ih _ h2⟩
      · rename_i hw
        rw [if_neg hw] at hb
        exact ih _ hb
  simpa using mono l a h

theorem later_call {P : Program} {f : FuncId} {args : Array Value} {w : World} {x : Later w} {v : Value} (h : Calls P f args x.1 fun e w' => e = .returned v ∧ Below x.1.heap.size x.1 w') :
    Calls P f args x.1 fun e w'' => e = .returned v ∧ ∃ y : Later w, w'' = y.1 :=
  h.mono fun _ _ ⟨he, hb⟩ => ⟨he, x.on hb, rfl⟩
theorem later_same {P : Program} {f : FuncId} {args : Array Value} {w : World} {x : Later w} {v : Value} (h : Calls P f args x.1 fun e w' => e = .returned v ∧ x.1 = w') :
    Calls P f args x.1 fun e w'' => e = .returned v ∧ ∃ y : Later w, w'' = y.1 :=
  h.mono fun _ _ ⟨he, hb⟩ => ⟨he, x, hb.symm⟩
end Go.My
/- A drawn region: what reads, calls and makes memory, in any order; then what waits for all that. -/
namespace Go.My
open Go Go.RowKit
section
variable {P : Program} {ops : Array Oper} {md : Region.Mode} {C : World → Prop}
def wpAnyT (P : Program) (md : Region.Mode) (ops : Array Oper) (C : World → Prop) (n : Nat) (L : Array Bool → Act → Prop) : Nat → Array Bool → Act → Prop
  | 0, listed, a => L listed a
  | f + 1, listed, a =>
    Region.ready md ops listed ≠ [] ∧ ∀ i ∈ Region.ready md ops listed, i < n ∧ qOp P ops C i (wpAnyT P md ops C n L f (listed.setIfInBounds i true)) a

theorem wpAny_of_headT {n g : Nat} {L : Array Bool → Act → Prop} {Q' : Exit → Act → World → Prop} (hL : ∀ listed a w, C w → L listed a → wpAny P md ops Q' g listed a w) :
    ∀ (f : Nat) (listed : Array Bool) (a : Act) (w : World), C w → wpAnyT P md ops C n L f listed a → wpAny P md ops Q' (f + g) listed a w
  | 0, listed, a, w, hw, h => by rw [Nat.zero_add]; exact hL _ _ _ hw h
  | f + 1, listed, a, w, hw, h => by
    rw [show f + 1 + g = (f + g) + 1 by omega]
    exact ⟨fun h0 => absurd h0 h.1, fun i hi => wpOp_of_qOp hw (fun a' w' hw' h' => wpAny_of_headT hL f _ a' w' hw' h') (h.2 i hi).2⟩

def sinkFrom (md : Region.Mode) (ops : Array Oper) (m n : Nat) : Bool :=
  (List.range n).all fun i => decide (i < m) || (List.range (n + 1)).any fun j => decide (i < j) && Region.waitsFor md ops j i
theorem tail_waitsM {m n : Nat} {listed : Array Bool} (hs : sinkFrom md ops m n = true) (hc : Region.chainB md ops n = true) (hn : n < ops.size) (inv : HeadInv md ops n listed) (low : ∀ i, i < m → listed.getD i true = true) :
    ∀ (d i : Nat), n - i = d → i < n → listed.getD i true = false → ∀ t, n ≤ t → t ∉ Region.ready md ops listed := by
  intro d
  induction d using Nat.strongRecOn with
  | _ d ih =>
    intro i hd hi hun t ht hr
    obtain ⟨_, ot, hot, hall⟩ := mem_ready.1 hr
    have htlt : t < ops.size := (Array.getElem?_eq_some_iff.1 hot).1
    by_cases htn : t = n
    · subst htn
      have h1 := List.all_eq_true.1 hs i (List.mem_range.2 hi)
      rw [Bool.or_eq_true] at h1
      rcases h1 with h1 | h1
      · have := low i (by simpa using h1)
        rw [hun] at this
        cases this
      obtain ⟨j, hj, hj2⟩ := List.any_eq_true.1 h1
      simp only [Bool.and_eq_true, decide_eq_true_eq] at hj2
      obtain ⟨oj, hoj, e, he, hb, hon⟩ := Region.waitsFor_spec hj2.2
      have hjle : j ≤ t := by have := List.mem_range.1 hj; omega
      by_cases hjt : j = t
      · subst hjt
        have : oj = ot := Option.some.inj (hoj.symm.trans hot)
        subst this
        have h2 := hall e he hb
        rw [hon, getD_both hun] at h2
        cases h2
      · cases hl : listed.getD j false with
        | true =>
          have h2 := inv.closed j oj hoj hl e he hb
          rw [hon, getD_both hun] at h2
          cases h2
        | false =>
          have hjs : j < listed.size := by rw [inv.size]; omega
          exact ih (t - j) (by omega) j rfl (by omega) (getD_in hjs hl) t (Nat.le_refl _) hr
    · have h1 := List.all_eq_true.1 hc t (List.mem_range.2 htlt)
      simp only [Bool.or_eq_true, decide_eq_true_eq] at h1
      rcases h1 with h1 | h1
      · omega
      · obtain ⟨o', ho', e, he, hb, hon⟩ := Region.waitsFor_spec h1
        have : o' = ot := Option.some.inj (ho'.symm.trans hot)
        subst this
        have h2 := hall e he hb
        rw [hon, getD_both (inv.tail (t - 1) (by omega) (by omega))] at h2
        cases h2
theorem low_set {m i : Nat} {listed : Array Bool} (low : ∀ k, k < m → listed.getD k true = true) : ∀ k, k < m → (listed.setIfInBounds i true).getD k true = true := fun k hk => by
  by_cases h : i = k
  · subst h
    simp only [Array.getD_eq_getD_getElem?, Array.getElem?_setIfInBounds_self]
    split <;> rfl
  · rw [getD_set_ne true h]
    exact low k hk

theorem wpAnyT_first {n i : Nat} {oi : Oper} {v : Value} {L : Array Bool → Act → Prop} (hi : ops[i]? = some oi) (hsel : ∀ (j : Nat) (o : Oper) cs b, ops[j]? = some o → o.op ≠ .select cs b)
    {m : Nat} (hs : sinkFrom md ops m n = true) (hc : Region.chainB md ops n = true) (hn : n < ops.size) (hin : i < n)
    (hdone : ∀ listed a, L listed a → ∀ j ∈ Region.ready md ops listed, n ≤ j) :
    ∀ (f : Nat) (listed : Array Bool) (a : Act), HeadInv md ops n listed → (∀ k, k < m → listed.getD k true = true) →
      (∀ j oj, ops[j]? = some oj → j ≠ i → listed.getD j true = false → (∀ e ∈ oj.after, Region.binds md e = true → e.on ≠ i) → oi.apart ops oj = true) →
      i ∈ Region.ready md ops listed → YieldsIn P ops C oi v a →
      wpAnyT P md ops C n L f (listed.setIfInBounds i true) (a.put oi.dst v) → wpAnyT P md ops C n L (f + 1) listed a := by
  intro f
  induction f with
  | zero =>
    intro listed a inv low _ hr hy H
    have hun := (mem_ready.1 hr).1
    refine ⟨fun h => (by rw [h] at hr; cases hr), fun j hj => ?_⟩
    have hjn : j < n := by
      rcases Nat.lt_or_ge j n with h | h
      · exact h
      · exact absurd hj (tail_waitsM hs hc hn inv low _ i rfl hin hun j h)
    refine ⟨hjn, ?_⟩
    by_cases hji : j = i
    · subst hji; exact hy.qOp hi H
    · have := hdone _ _ H j (ready_mono hj hji)
      omega
  | succ f ih =>
    intro listed a inv low hfree hr hy H
    have hun := (mem_ready.1 hr).1
    refine ⟨fun h => (by rw [h] at hr; cases hr), fun j hj => ?_⟩
    have hjn : j < n := by
      rcases Nat.lt_or_ge j n with h | h
      · exact h
      · exact absurd hj (tail_waitsM hs hc hn inv low _ i rfl hin hun j h)
    refine ⟨hjn, ?_⟩
    by_cases hji : j = i
    · subst hji; exact hy.qOp hi H
    · have h1 := (H.2 j (ready_mono hj hji)).2
      obtain ⟨hjun, oj, hoj, hall⟩ := mem_ready.1 hj
      have hnot : ∀ e ∈ oj.after, Region.binds md e = true → e.on ≠ i := fun e he hb heq => by
        have h1 := hall e he hb
        rw [heq, getD_both hun] at h1
        cases h1
      have h2 := qOp_put hoj (hfree j oj hoj hji hjun hnot) (fun cs b => hsel i oi cs b hi) (fun cs b => hsel j oj cs b hoj) hy h1
      have hfree' : ∀ k ok, ops[k]? = some ok → k ≠ i → (listed.setIfInBounds j true).getD k true = false →
          (∀ e ∈ ok.after, Region.binds md e = true → e.on ≠ i) → oi.apart ops ok = true := fun k ok hk hki hun hno => by
        refine hfree k ok hk hki ?_ hno
        by_cases hjk : j = k
        · subst hjk; exact hjun
        · rw [getD_set_ne true hjk] at hun; exact hun
      refine qOp_mono (fun a' h3 => ih (listed.setIfInBounds j true) a' (inv.set hj hjn) (low_set low) hfree' (ready_mono hr (Ne.symm hji)) h3.1 ?_) h2
      rw [Array.setIfInBounds_comm _ _ hji]
      exact h3.2

theorem wpAnyT_lex {n g : Nat} {Lq : Act → Prop} (hsel : Region.noSelect ops = true) {m : Nat} (hs : sinkFrom md ops m n = true) (hc : Region.chainB md ops n = true) (hn : n < ops.size) :
    ∀ (l : List Oper) (k : Nat) (listed : Array Bool) (a : Act), (∀ j, j < l.length → l[j]? = ops[k + j]?) → k + l.length = n → HeadInv md ops n listed → (∀ i, i < m → listed.getD i true = true) →
    Region.lexHead md ops g l.length k listed = true → wpQuiet P ops C Lq l a →
    wpAnyT P md ops C n (fun listed' a' => Region.seqB md ops g n listed' = true ∧ Lq a') l.length listed a
  | [], k, listed, a, _, hk, _, _, hB, h => by
    have : k = n := by simpa using hk
    subst this
    exact ⟨by simpa [Region.lexHead] using hB, h⟩
  | o :: l, k, listed, a, hl, hk, inv, low, hB, h => by
    have h0 : ops[k]? = some o := by simpa using (hl 0 (by simp)).symm
    simp only [List.length_cons, Region.lexHead, Bool.and_eq_true] at hB
    obtain ⟨⟨hr, hf⟩, hB'⟩ := hB
    have hkn : k < n := by simp only [List.length_cons] at hk; omega
    have hr' : k ∈ Region.ready md ops listed := by simpa using hr
    have hst : qOp P ops C k (wpQuiet P ops C Lq l) a := by unfold qOp; simp only [h0]; exact h
    obtain ⟨v, hy, hK⟩ := yieldsIn_of_qOp h0 hst
    exact wpAnyT_first h0 (Region.noSelect_spec hsel) hs hc hn hkn (fun listed' a' hL => seqB_ready hL.1) l.length listed a inv low (Region.free_spec h0 hf) hr' hy
      (wpAnyT_lex hsel hs hc hn l (k + 1) _ _ (fun j hj => by have := hl (j + 1) (by simp; omega); simpa [Nat.add_assoc, Nat.add_comm 1 j] using this) (by simp only [List.length_cons] at hk; omega) (inv.set hr' hkn) (low_set low) hB' hK)

def lexThen (md : Region.Mode) (ops : Array Oper) (n : Nat) : Bool :=
  Region.noSelect ops && decide (n < ops.size) && sinkFrom md ops 0 n && Region.chainB md ops n && Region.lexHead md ops (ops.size - n) n 0 (Array.replicate ops.size false)
/-- **A drawn region of which the first n operations read, call, make memory, in whatever order, and the others wait for them.** -/
theorem wp_region_then {id : Nat} {Q : Exit → Act → World → Prop} {a : Act} {w : World} {l : List Oper} (n : Nat) (hm : P.follows .mixedOrders = true) (hB : lexThen .any l.toArray n = true)
    (h : wpQuiet P l.toArray (fun w' => ∃ x : Later w, w' = x.1) (fun a' => ∀ x : Later w, wpList P l.toArray Q (l.drop n) a' x.1) (l.take n) a) : (Code.region id l.toArray true).wp P Q a w := by
  simp only [lexThen, Bool.and_eq_true, decide_eq_true_eq] at hB
  obtain ⟨⟨⟨⟨hsel, hn⟩, hs⟩, hc⟩, hlex⟩ := hB
  have hn' : n < l.length := by simpa using hn
  have htl : (l.take n).length = n := by simp; omega
  have hdl : (l.drop n).length = l.toArray.size - n := by simp
  have inv0 : HeadInv .any l.toArray n (Array.replicate l.toArray.size false) :=
    ⟨by simp, fun j oj _ hl => (by rw [getD_replicate_false] at hl; cases hl), fun t _ ht => getD_in (by simpa using ht) (getD_replicate_false _ _)⟩
  have H := wpAnyT_lex (md := .any) (C := fun w' => ∃ x : Later w, w' = x.1) (g := l.toArray.size - n) hsel hs hc hn (l.take n) 0 _ a (fun j hj => by
    have hj' : j < n := by rw [htl] at hj; exact hj
    simp [hj']) (by simpa using htl) inv0 (fun i hi => absurd hi (by omega)) (by rw [htl]; exact hlex) h
  refine wp_region_any hm ?_
  have := wpAny_of_headT (Q' := Q) (g := l.toArray.size - n) (fun listed a' w' hw' hL => by
    obtain ⟨x, rfl⟩ := hw'
    have := wpAny_of_seq (md := .any) (Q' := Q) (l.drop n) n listed a' x.1 (fun j => by simp [List.getElem?_drop]) (by rw [hdl]; exact hL.1) (hL.2 x)
    rwa [hdl] at this) _ _ _ _ ⟨⟨w.drew, (Below.refl _ _).drew⟩, rfl⟩ H
  rw [htl, show n + (l.toArray.size - n) = l.toArray.size by omega] at this
  exact this
def lexOne (md : Region.Mode) (ops : Array Oper) (n : Nat) : Bool :=
  Region.noSelect ops && decide (n < ops.size) && decide (0 < n) && sinkFrom md ops 1 n && Region.chainB md ops n && (Region.ready md ops (Array.replicate ops.size false)).contains 0 && Region.free md ops (Array.replicate ops.size false) 0 &&
    (match ops[0]? with | some o => o.after.isEmpty | none => false) && Region.lexHead md ops (ops.size - n) (n - 1) 1 ((Array.replicate ops.size false).setIfInBounds 0 true)
/-- **The same where the first of all copies something and is waited for late: it is taken first; the next n - 1 read only; the others come in their order.** -/
theorem wp_region_one {id : Nat} {Q : Exit → Act → World → Prop} {a : Act} {w : World} {o0 : Oper} {v0 : Value} {l : List Oper} (n : Nat) (hm : P.follows .mixedOrders = true) (hB : lexOne .any (o0 :: l).toArray n = true) (hQ : ∀ c (a : Act) d v w, Q (.panic c) (a.put d v) w → Q (.panic c) a w)
    (hy : Yields P (o0 :: l).toArray o0 v0 a)
    (h : wpQuiet P (o0 :: l).toArray (fun w' => w' = w.drew) (fun a' => wpList P (o0 :: l).toArray Q (l.drop (n - 1)) a' w.drew) (l.take (n - 1)) (a.put o0.dst v0)) : (Code.region id (o0 :: l).toArray true).wp P Q a w := by
  obtain ⟨ops, hops⟩ : ∃ ops, ops = (o0 :: l).toArray := ⟨_, rfl⟩
  rw [← hops] at hB hy h ⊢
  have hsz : ops.size = l.length + 1 := by rw [hops]; simp
  simp only [lexOne, Bool.and_eq_true, decide_eq_true_eq] at hB
  obtain ⟨⟨⟨⟨⟨⟨⟨⟨hsel, hn⟩, h0n⟩, hs⟩, hc⟩, hr0⟩, hf0⟩, hno⟩, hlex⟩ := hB
  have h0 : ops[0]? = some o0 := by rw [hops]; rfl
  rw [h0] at hno
  have htl : (l.take (n - 1)).length = n - 1 := by simp; omega
  have hdl : (l.drop (n - 1)).length = ops.size - n := by simp; omega
  have hlow : ∀ i, i < 1 → (((Array.replicate ops.size false).setIfInBounds 0 true).getD i true) = true := fun i hi => by
    obtain rfl : i = 0 := by omega
    simp only [Array.getD_eq_getD_getElem?, Array.getElem?_setIfInBounds]
    split <;> simp_all
  have inv0 : HeadInv .any ops n ((Array.replicate ops.size false).setIfInBounds 0 true) := by
    refine ⟨by simp, fun j oj hoj hl => ?_, fun t ht ht' => ?_⟩
    · by_cases hj : 0 = j
      · subst hj
        rw [h0] at hoj
        cases hoj
        intro e he
        have : o0.after = #[] := by simpa using hno
        rw [this] at he
        simp at he
      · rw [getD_set_ne false hj, getD_replicate_false] at hl
        cases hl
    · rw [getD_set_ne true (by omega)]
      exact getD_in (by simpa using ht') (getD_replicate_false _ _)
  have H := wpAnyT_lex (md := .any) (C := fun w' => w' = w.drew) (g := ops.size - n) hsel hs hc hn (l.take (n - 1)) 1 _ _ (fun j hj => by
    have hj' : j < n - 1 := by rw [htl] at hj; exact hj
    rw [hops]
    simp [hj', Nat.add_comm 1 j]) (by rw [htl]; omega) inv0 hlow (by rw [htl]; exact hlex) h
  refine wp_region_any hm ?_
  have := wpAny_of_headT (md := .any) (ops := ops) (C := fun w' => w' = w.drew) (L := fun listed' a' => Region.seqB .any ops (ops.size - n) n listed' = true ∧ wpList P ops Q (l.drop (n - 1)) a' w.drew) (Q' := Q) (g := ops.size - n) (fun listed a' w' hw' hL => by
    subst hw'
    have := wpAny_of_seq (md := .any) (ops := ops) (Q' := Q) (l.drop (n - 1)) n listed a' w.drew (fun j => by
      rw [hops, List.getElem?_drop]
      simp only [List.getElem?_toArray]
      rw [show n + j = (n - 1 + j) + 1 by omega, List.getElem?_cons_succ]) (by rw [hdl]; exact hL.1) hL.2
    rwa [hdl] at this) _ _ _ _ rfl H
  rw [htl, show n - 1 + (ops.size - n) = l.length by omega] at this
  rw [hsz]
  rw [hsz] at hr0 hf0 this
  exact wpAny_take h0 hsel hf0 hr0 (fun c a w h => hQ c a _ _ w h) hy this
end
end Go.My
/- Keys in order: a list of bytes below another one. No program is named here. -/
namespace Go.My
open Go.RowKit

/-! ### order -/
theorem less_lt : ∀ (x y : List UInt8), Op.bytesLess x y = decide (x < y)
  | [], [] => by simp [Op.bytesLess]
  | _ :: _, [] => by simp [Op.bytesLess]
  | [], _ :: _ => by simp [Op.bytesLess]
  | a :: x, b :: y => by
    rw [Op.bytesLess, less_lt x y]
    simp only [List.cons_lt_cons_iff]
    by_cases h1 : a < b <;> by_cases h2 : a = b <;> by_cases h3 : x < y <;> simp [h1, h2, h3]
def lessK (a b : ByteArray) : Bool := Op.bytesLess a.toList b.toList
theorem lessK_lt {a b : ByteArray} : lessK a b = true ↔ a.toList < b.toList := by unfold lessK; rw [less_lt]; simp
theorem bytes_eq {a b : ByteArray} (h : a.toList = b.toList) : a = b := by
  rw [Lib.toList_data, Lib.toList_data] at h
  cases a with | mk a => cases b with | mk b =>
    cases a; cases b; simp at h; rw [h]
theorem lessK_irr (a : ByteArray) : lessK a a = false := by
  cases h : lessK a a with
  | false => rfl
  | true => exact absurd (lessK_lt.1 h) (List.lt_irrefl _)
theorem lessK_trans {a b c : ByteArray} (h : lessK a b = true) (h' : lessK b c = true) : lessK a c = true :=
  lessK_lt.2 (List.lt_trans (lessK_lt.1 h) (lessK_lt.1 h'))
theorem lessK_tri {a b : ByteArray} (h : lessK a b ≠ true) (h2 : a ≠ b) : lessK b a = true := by
  have h : ¬ (lessK a b = true) := h
  rw [lessK_lt] at h ⊢
  refine Classical.byContradiction fun hl => h2 (bytes_eq (List.le_antisymm (List.not_lt.1 hl) (List.not_lt.1 h)))
theorem lessK_asymm {a b : ByteArray} (h : lessK a b = true) : lessK b a = false := by
  cases h2 : lessK b a with
  | false => rfl
  | true =>
    have h3 := lessK_trans h h2
    rw [lessK_irr] at h3
    exact h3.symm
theorem key_ne {a b : ByteArray} (h : a ≠ b) : (a.toList == b.toList) = false := by
  cases hb : a.toList == b.toList with
  | false => rfl
  | true => exact absurd (bytes_eq (by simpa using hb)) h
theorem gtK (a b : ByteArray) : (!Op.bytesLess a.toList b.toList && !(a.toList == b.toList)) = lessK b a := by
  cases h : lessK b a with
  | true =>
    have h1 : Op.bytesLess a.toList b.toList = false := lessK_asymm h
    rw [h1, key_ne (fun e => by rw [e, lessK_irr] at h; cases h)]
    rfl
  | false =>
    cases h1 : lessK a b with
    | true =>
      have h2 : Op.bytesLess a.toList b.toList = true := h1
      rw [h2]
      rfl
    | false =>
      have h2 : Op.bytesLess a.toList b.toList = false := h1
      have e : a = b := by
        by_cases e : a = b
        · exact e
        · have := lessK_tri (by rw [h1]; simp) e
          rw [this] at h
          cases h
      subst e
      rw [h2]
      simp
theorem empty_ne {t : ByteArray} (h : t.size ≠ 0) : (t.toList == []) = false := by
  cases hb : t.toList == [] with
  | false => rfl
  | true =>
    exfalso
    have h5 : t.toList = [] := by simpa using hb
    rw [Lib.toList_data] at h5
    have : t.data.size = 0 := by rw [← Array.length_toList, h5]; rfl
    exact h this
theorem lessK_empty (k : ByteArray) : lessK k ByteArray.empty = false := by
  cases h : lessK k ByteArray.empty with
  | false => rfl
  | true =>
    have := lessK_lt.1 h
    rw [Lib.toList_data ByteArray.empty] at this
    exact absurd this (by simp)
theorem lessK_trans' {a b c : ByteArray} (h : lessK b a = false) (h' : lessK c b = false) : lessK c a = false := by
  cases h3 : lessK c a with
  | false => rfl
  | true =>
    exfalso
    by_cases e : a = b
    · subst e
      rw [h3] at h'
      cases h'
    · have h4 := lessK_tri (by rw [h]; simp) (fun e' => e e'.symm)
      have := lessK_trans h3 h4
      rw [this] at h'
      cases h'
theorem lessK_le_lt {a b c : ByteArray} (h : lessK b a = false) (h' : lessK b c = true) : lessK a c = true := by
  cases h3 : lessK a c with
  | true => rfl
  | false =>
    have := lessK_trans' h3 h
    rw [this] at h'
    cases h'
theorem lessK_lt_le {a b c : ByteArray} (h : lessK a b = true) (h' : lessK c b = false) : lessK a c = true := by
  cases h3 : lessK a c with
  | true => rfl
  | false =>
    have := lessK_trans' h' h3
    rw [this] at h
    cases h
theorem lessK_anti {a b : ByteArray} (h : lessK a b = false) (h' : lessK b a = false) : a = b := by
  by_cases e : a = b
  · exact e
  · have := lessK_tri (by rw [h]; simp) e
    rw [this] at h'
    cases h'
theorem lessK_ne {a b : ByteArray} (h : lessK a b = true) : a ≠ b := by
  rintro rfl
  rw [lessK_irr] at h
  cases h
theorem size_empty {b : ByteArray} (h : b.size = 0) : b = ByteArray.empty := by
  cases b with | mk d =>
    have h2 : d.size = 0 := h
    have h3 : d = #[] := Array.size_eq_zero_iff.1 h2
    subst h3
    rfl

/-! ### comparing -/
def cmpK (a b : ByteArray) : Int := Lib.compareBytes a.data.toList b.data.toList
theorem compare_lt : ∀ (x y : List UInt8), (Lib.compareBytes x y < 0 ↔ x < y) ∧ (Lib.compareBytes x y = 0 ↔ x = y) ∧ (Lib.compareBytes x y = -1 ∨ Lib.compareBytes x y = 0 ∨ Lib.compareBytes x y = 1)
  | [], [] => by simp [Lib.compareBytes]
  | _ :: _, [] => by simp [Lib.compareBytes]
  | [], _ :: _ => by simp [Lib.compareBytes]
  | a :: x, b :: y => by
    obtain ⟨h1, h2, h3⟩ := compare_lt x y
    unfold Lib.compareBytes
    by_cases q1 : a < b
    · have : ¬ a = b := fun e => by rw [e] at q1; exact absurd q1 (by simp)
      simp [q1, this, List.cons_lt_cons_iff]
    · by_cases q2 : b < a
      · have : ¬ a = b := fun e => by rw [e] at q2; exact absurd q2 (by simp)
        simp [q1, q2, this, List.cons_lt_cons_iff]
      · have e : a = b := by
          have h5 : ¬ a.toNat < b.toNat := fun h => q1 h
          have h6 : ¬ b.toNat < a.toNat := fun h => q2 h
          exact UInt8.toNat_inj.1 (by omega)
        subst e
        simp only [q1, if_false, List.cons_lt_cons_iff, List.cons.injEq, true_and, false_or]
        exact ⟨h1, h2, h3⟩
theorem cmp_neg {a b : ByteArray} : cmpK a b < 0 ↔ lessK a b = true := by
  unfold cmpK
  rw [(compare_lt _ _).1, lessK_lt, Lib.toList_data, Lib.toList_data]
theorem cmp_zero {a b : ByteArray} : cmpK a b = 0 ↔ a = b := by
  unfold cmpK
  rw [(compare_lt _ _).2.1]
  constructor
  · intro h
    exact bytes_eq (by rw [Lib.toList_data, Lib.toList_data]; exact h)
  · rintro rfl
    rfl
theorem cmp_three (a b : ByteArray) : cmpK a b = -1 ∨ cmpK a b = 0 ∨ cmpK a b = 1 := (compare_lt _ _).2.2
end Go.My
/- General: arguments opened: slices of whatever elements, structs, bytes. Nothing here names a program. -/
namespace Go.My
open Go.ChangeShapes Go.WideShapes Go.Deep Go.RowKit

/-- The elements of a slice, c cells each, told by R. -/
def ListAt {α : Type} (w : World) (a : Option Addr) (c : Nat) (R : World → List Value → α → Prop) (l : List α) : Prop :=
  ∀ (i : Nat) (x : α), l[i]? = some x → ∃ b off cs, a = some ⟨b, off, none⟩ ∧ b < w.heap.size ∧ cs.length = c ∧ (∀ j v, cs[j]? = some v → w.cell? ⟨b, off + i * c + j, none⟩ = some v) ∧ R w cs x

theorem ListAt.nil {α : Type} (w : World) (a : Option Addr) (c : Nat) (R : World → List Value → α → Prop) : ListAt w a c R [] := fun i x h => by simp at h
theorem ListAt.below {α : Type} {w w' : World} {a : Option Addr} {c : Nat} {R : World → List Value → α → Prop} {l : List α} (h : ListAt w a c R l) (hR : ∀ cs x, R w cs x → R w' cs x) (hb : Below w.heap.size w w') : ListAt w' a c R l := by
  intro i x hx
  obtain ⟨b, off, cs, ha, hlt, hl, hc, hr⟩ := h i x hx
  exact ⟨b, off, cs, ha, Nat.lt_of_lt_of_le hlt hb.size, hl, fun j v hv => (hb.cell (p := ⟨b, off + i * c + j, none⟩) hlt).trans (hc j v hv), hR cs x hr⟩

theorem list_of {α : Type} {Q : Nat → α → Prop} : ∀ n : Nat, (∀ i, i < n → ∃ o, Q i o) → ∃ l : List α, l.length = n ∧ ∀ i o, l[i]? = some o → Q i o
  | 0, _ => ⟨[], rfl, by simp⟩
  | n + 1, h => by
    obtain ⟨l, hl, hq⟩ := list_of n fun i hi => h i (by omega)
    obtain ⟨o, ho⟩ := h n (by omega)
    refine ⟨l ++ [o], by simp [hl], fun i o' hi => ?_⟩
    rw [List.getElem?_append] at hi
    split at hi
    · exact hq i o' hi
    · rename_i hge
      have : i = n := by
        rcases Nat.lt_or_ge (i - l.length) 1 with h1 | h1
        · omega
        · rw [List.getElem?_eq_none (by simpa using h1)] at hi; cases hi
      subst this
      rw [hl, Nat.sub_self] at hi
      simp at hi
      subst hi
      exact ho

section
variable {H : Type} {enc : TypeId × Value → H} {P : Program} {w : World} {base : Nat} {spare : Nat → Bool} {held : Bool}

theorem open_list {α : Type} {t e : TypeId} {c fuel : Nat} {R : World → List Value → α → Prop} {a : Option Addr} {len cap : Nat} {x : DataW H × List MemPlace} (ht : P.underlying t = some (.slice e)) (hC : P.cellsOf e = c) (hc : 0 < c)
    (hR : ∀ (n : Nat) (cs : List Value) (d : DataW H × List MemPlace), cs.length = c → DataW.trod enc P w base spare held n e cs = some d → ∃ y, R w cs y)
    (h : DataW.trod enc P w base spare held fuel t [.slice a len cap] = some x) : ∃ l : List α, l.length = len ∧ len ≤ cap ∧ cap ≤ maxLen ∧ ListAt w a c R l := by
  rcases open_slice ht h with ⟨h0, _⟩ | ⟨ad, len', cap', m, n, D, Pl, hcs, _, hl, hcm, hm, _, hi⟩
  · simp only [List.cons.injEq, Value.slice.injEq, and_true] at h0
    obtain ⟨_, rfl, rfl⟩ := h0
    exact ⟨[], rfl, Nat.le_refl _, Nat.zero_le _, ListAt.nil _ _ _ _⟩
  · simp only [List.cons.injEq, Value.slice.injEq, and_true] at hcs
    obtain ⟨rfl, rfl, rfl⟩ := hcs
    have hlm : len ≤ m := by rw [hm]; split <;> omega
    suffices hs : ∃ l : List α, l.length = len ∧ ListAt w (some ad) c R l by
      obtain ⟨l, h1, h2⟩ := hs
      exact ⟨l, h1, hl, hcm, h2⟩
    refine list_of (Q := fun (i : Nat) (y : α) => ∃ b off cs, some ad = some ⟨b, off, none⟩ ∧ b < w.heap.size ∧ cs.length = c ∧ (∀ j v, cs[j]? = some v → w.cell? ⟨b, off + i * c + j, none⟩ = some v) ∧ R w cs y) len ?_
    intro i hil
    obtain ⟨cs', hc', htr⟩ := hi i (by omega)
    rw [hC] at hc'
    obtain ⟨_, hlen, hat⟩ := World.cells?_some hc'
    obtain ⟨y, hy⟩ := hR _ _ _ hlen htr
    obtain ⟨b, off, spot⟩ := ad
    have hspot : spot = none := by
      obtain ⟨cs0, hc0, _⟩ := hi 0 (by omega)
      rw [hC] at hc0
      obtain ⟨_, hl0, hat0⟩ := World.cells?_some hc0
      have h0 := hat0 0 hc
      rw [List.getElem?_eq_getElem (by omega)] at h0
      have := World.cell?_spot h0
      simpa [Addr.add] using this
    subst hspot
    have cc : ∀ j v, cs'[j]? = some v → w.cell? ⟨b, off + i * c + j, none⟩ = some v := by
      intro j v hv
      have hj : j < cs'.length := (List.getElem?_eq_some_iff.1 hv).1
      have := hat j (by omega)
      rw [Addr.add_lit, Addr.add_lit, hv] at this
      exact this
    have h0 := cc 0 _ (List.getElem?_eq_getElem (by omega))
    exact ⟨y, b, off, cs', rfl, World.block_lt_of_cell? w _ h0, hlen, cc, hy⟩

/-- a field of one cell, of a struct -/
theorem open_field {ts : TypeId} {fs : Array Field} {fuel : Nat} {cs : List Value} {x : DataW H × List MemPlace} (hs : P.underlying ts = some (.struct fs)) (hone : oneCellFields P fs = true)
    (h : DataW.trod enc P w base spare held fuel ts cs = some x) (j : Nat) (f : Field) (v : Value) (hj : fs[j]? = some f) (hv : cs[j]? = some v) : ∃ n y, DataW.trod enc P w base spare held n f.type [v] = some y := by
  obtain ⟨ys, n', _, _, _, hyl, hf⟩ := DataW.trod_struct hs h
  obtain ⟨ho, hk⟩ := hone_of hone j f hj
  have h1 := hf j f hj
  rw [ho, hk] at h1
  have hjl := (List.getElem?_eq_some_iff.1 hv).1
  have h2 : (cs.drop j).take 1 = [v] := by
    rw [List.drop_eq_getElem_cons hjl]
    have := (List.getElem?_eq_some_iff.1 hv).2
    simp only [List.take_succ_cons, List.take_zero]
    rw [this]
  rw [h2] at h1
  have hjf := (Array.getElem?_eq_some_iff.1 hj).1
  rw [List.getElem?_eq_getElem (by omega)] at h1
  exact ⟨n', _, h1⟩
theorem field_int {ts : TypeId} {fs : Array Field} {fuel : Nat} {cs : List Value} {x : DataW H × List MemPlace} (hs : P.underlying ts = some (.struct fs)) (hone : oneCellFields P fs = true)
    (h : DataW.trod enc P w base spare held fuel ts cs = some x) (j : Nat) (f : Field) (v : Value) (hj : fs[j]? = some f) (hv : cs[j]? = some v) {k : IntKind} (hu : P.underlying f.type = some (.int k)) : ∃ z, v = .int k z ∧ (Lit.int k z).wf = true := by
  obtain ⟨n, y, h1⟩ := open_field hs hone h j f v hj hv
  obtain ⟨z, hz, _, hw⟩ := DataW.trod_int hu h1
  simp only [List.cons.injEq, and_true] at hz
  exact ⟨z, hz, hw⟩
theorem field_string {ts : TypeId} {fs : Array Field} {fuel : Nat} {cs : List Value} {x : DataW H × List MemPlace} (hs : P.underlying ts = some (.struct fs)) (hone : oneCellFields P fs = true)
    (h : DataW.trod enc P w base spare held fuel ts cs = some x) (j : Nat) (f : Field) (v : Value) (hj : fs[j]? = some f) (hv : cs[j]? = some v) (hu : P.underlying f.type = some .string) : ∃ z : ByteArray, v = .string z ∧ z.size ≤ maxLen := by
  obtain ⟨n, y, h1⟩ := open_field hs hone h j f v hj hv
  obtain ⟨z, hz, _, hw⟩ := DataW.trod_string hu h1
  simp only [List.cons.injEq, and_true] at hz
  exact ⟨z, hz, hw⟩
theorem field_bool {ts : TypeId} {fs : Array Field} {fuel : Nat} {cs : List Value} {x : DataW H × List MemPlace} (hs : P.underlying ts = some (.struct fs)) (hone : oneCellFields P fs = true)
    (h : DataW.trod enc P w base spare held fuel ts cs = some x) (j : Nat) (f : Field) (v : Value) (hj : fs[j]? = some f) (hv : cs[j]? = some v) (hu : P.underlying f.type = some .bool) : ∃ z : Bool, v = .bool z := by
  obtain ⟨n, y, h1⟩ := open_field hs hone h j f v hj hv
  obtain ⟨z, hz, _⟩ := DataW.trod_bool hu h1
  simp only [List.cons.injEq, and_true] at hz
  exact ⟨z, hz⟩

/-- A slice of bytes that reads as s. -/
def BytesOf (w : World) (a : Option Addr) (s : ByteArray) : Prop := s.size ≠ 0 → ∃ g o, a = some ⟨g, o, none⟩ ∧ g < w.heap.size ∧ Lib.Bytes w g o s
theorem BytesOf.below {w w' : World} {a : Option Addr} {s : ByteArray} (h : BytesOf w a s) (hb : Below w.heap.size w w') : BytesOf w' a s := by
  intro h0
  obtain ⟨g, o, ha, hg, hB⟩ := h h0
  exact ⟨g, o, ha, Nat.lt_of_lt_of_le hg hb.size, fun i hi => (hb.cell (p := ⟨g, o + i, none⟩) hg).trans (hB i hi)⟩

theorem open_bytes {t e : TypeId} {fuel : Nat} {a : Option Addr} {len cap : Nat} {x : DataW H × List MemPlace} (ht : P.underlying t = some (.slice e)) (he : P.underlying e = some (.int .u8)) (hC : P.cellsOf e = 1)
    (h : DataW.trod enc P w base spare held fuel t [.slice a len cap] = some x) : ∃ s : ByteArray, s.size = len ∧ len ≤ cap ∧ cap ≤ maxLen ∧ BytesOf w a s := by
  obtain ⟨l, hl, h1, h2, hat⟩ := open_list (R := fun _ cs (z : UInt8) => cs = [.int .u8 (z.toNat : Int)]) ht hC (by omega) (fun n cs d _ hd => by
    obtain ⟨z, hz, _, hw⟩ := DataW.trod_int he hd
    refine ⟨UInt8.ofNat z.toNat, ?_⟩
    rw [hz]
    have hw2 : 0 ≤ z ∧ z ≤ 255 := by simpa [Lit.wf, IntKind.min, IntKind.max, IntKind.bits, IntKind.signed] using hw
    have : ((UInt8.ofNat z.toNat).toNat : Int) = z := by
      simp [UInt8.toNat_ofNat']
      omega
    rw [this]) h
  refine ⟨⟨l.toArray⟩, by show l.toArray.size = len; simpa using hl, h1, h2, fun h0 => ?_⟩
  have hpos : 0 < l.length := by
    have : l.toArray.size ≠ 0 := h0
    simp at this
    exact List.length_pos_iff.2 this
  obtain ⟨b, off, cs, ha, hlt, _, _, _⟩ := hat 0 _ (List.getElem?_eq_getElem hpos)
  refine ⟨b, off, ha, hlt, fun i hi => ?_⟩
  have hi' : i < l.length := by have : i < l.toArray.size := hi; simpa using this
  obtain ⟨b', off', cs', ha', _, _, hc', rfl⟩ := hat i _ (List.getElem?_eq_getElem hi')
  rw [ha] at ha'
  cases ha'
  have := hc' 0 _ rfl
  rw [Nat.mul_one, Nat.add_zero] at this
  rw [this]
  rfl

/-- A slice of slices of bytes. -/
def RowOf (w : World) (cs : List Value) (s : ByteArray) : Prop := ∃ a cap, cs = [.slice a s.size cap] ∧ s.size ≤ maxLen ∧ BytesOf w a s
theorem RowOf.below {w w' : World} {cs : List Value} {s : ByteArray} (h : RowOf w cs s) (hb : Below w.heap.size w w') : RowOf w' cs s := by
  obtain ⟨a, cap, hc, hm, h⟩ := h
  exact ⟨a, cap, hc, hm, h.below hb⟩
theorem open_rows {t e q : TypeId} {fuel : Nat} {a : Option Addr} {len cap : Nat} {x : DataW H × List MemPlace} (ht : P.underlying t = some (.slice e)) (he : P.underlying e = some (.slice q)) (hq : P.underlying q = some (.int .u8)) (ce : P.cellsOf e = 1) (cq : P.cellsOf q = 1)
    (h : DataW.trod enc P w base spare held fuel t [.slice a len cap] = some x) : ∃ l : List ByteArray, l.length = len ∧ len ≤ cap ∧ cap ≤ maxLen ∧ ListAt w a 1 RowOf l := by
  refine open_list ht ce (by omega) (fun n cs d hl hd => ?_) h
  rcases open_slice he hd with ⟨rfl, _⟩ | ⟨ad, len', cap', m, n, D, Pl, rfl, _⟩
  · exact ⟨⟨#[]⟩, none, 0, rfl, Nat.zero_le _, fun h0 => absurd rfl h0⟩
  · obtain ⟨s, hs, h1, h2, h3⟩ := open_bytes he hq cq hd
    exact ⟨s, some ad, cap', by rw [hs], by omega, h3⟩
end
/-! ### rows of a call's own -/
theorem row_wrote {S : List Nat} {w w' : World} {base : Nat} {e : TypeId} {c : Nat} {v : Value} {n : Nat} {xs : List Value} (h : w.ownsRow base e c v n xs) (hw : Wrote S w w') (hn : ∀ g, v.ownBlock = some g → g ∉ S) : w'.ownsRow base e c v n xs := by
  refine ⟨h.1, ?_⟩
  rcases h.2 with h0 | ⟨g, cap, cur, rfl, hb, hg, h3⟩
  · exact .inl h0
  · exact .inr ⟨g, cap, cur, rfl, hb, hw.heap hg (hn g rfl), h3⟩
theorem row_below {w w' : World} {base : Nat} {e : TypeId} {c : Nat} {v : Value} {n : Nat} {xs : List Value} (h : w.ownsRow base e c v n xs) (hb : Below w.heap.size w w') : w'.ownsRow base e c v n xs :=
  row_wrote (S := []) h (Wrote.of_below hb) (by simp)
theorem row_block {w : World} {base : Nat} {e : TypeId} {c : Nat} {v : Value} {n : Nat} {xs : List Value} (h : w.ownsRow base e c v n xs) {g : Nat} (hg : v.ownBlock = some g) : base ≤ g ∧ ∃ cur, w.heap[g]? = some (.cells cur e (0, 0)) := by
  rcases h.2 with ⟨rfl, _⟩ | ⟨g', cap, cur, rfl, hb, hc, _⟩
  · cases hg
  · have e : g' = g := by simpa [Value.ownBlock] using hg
    subst e
    exact ⟨hb, cur, hc⟩
theorem rows_apart {w : World} {base base' : Nat} {e e' : TypeId} {c c' : Nat} {v v' : Value} {n n' : Nat} {xs xs' : List Value} (h : w.ownsRow base e c v n xs) (h' : w.ownsRow base' e' c' v' n' xs') (hne : e ≠ e') {g : Nat} (hg : v.ownBlock = some g) : v'.ownBlock ≠ some g := by
  intro hg'
  obtain ⟨_, cur, h1⟩ := row_block h hg
  obtain ⟨_, cur', h2⟩ := row_block h' hg'
  rw [h1] at h2
  injection h2 with h2
  injection h2 with _ h3
  exact hne h3
theorem Wrote.of_grown {w w' : World} {row : Option Nat} (hg : w.grownBy w' row) : Wrote row.toList w w' :=
  ⟨hg.os, hg.tape, hg.output, hg.size, fun i hi hn => hg.block i hi (fun e => hn (by rw [← e]; simp))⟩
theorem flat_get {α β : Type} (f : α → List β) (c : Nat) (hc : ∀ x, (f x).length = c) : ∀ (L : List α) (k j : Nat) (p : α), L[k]? = some p → j < c → (L.flatMap f)[k * c + j]? = (f p)[j]?
  | [], _, _, _, h, _ => by simp at h
  | x :: L, 0, j, p, h, hj => by
    simp at h
    subst h
    rw [List.flatMap_cons, Nat.zero_mul, Nat.zero_add, List.getElem?_append_left (by rw [hc]; exact hj)]
  | x :: L, k + 1, j, p, h, hj => by
    have h' : L[k]? = some p := by simpa using h
    rw [List.flatMap_cons, List.getElem?_append_right (by rw [hc, Nat.add_mul]; omega), hc, ← flat_get f c hc L k j p h' hj]
    congr 1
    rw [Nat.add_mul]
    omega
theorem row_cell {α : Type} {w : World} {base : Nat} {e : TypeId} {c : Nat} {g n cap : Nat} {f : α → List Value} {L : List α} (h : w.ownsRow base e c (.slice (some ⟨g, 0, none⟩) n cap) n (L.flatMap f)) (hc : ∀ x, (f x).length = c) (hn : n = L.length) {k : Nat} {p : α} (hk : L[k]? = some p) {j : Nat} (hj : j < c) : w.cell? ⟨g, k * c + j, none⟩ = (f p)[j]? := by
  have hkl : k < L.length := (List.getElem?_eq_some_iff.1 hk).1
  have h1 : (k + 1) * c ≤ L.length * c := Nat.mul_le_mul_right c hkl
  rw [Nat.add_mul] at h1
  rw [h.cellAt (k * c + j) (by rw [hn]; omega), flat_get f c hc L k j p hk hj]
/-- a row of a call's own, opened -/
theorem row_form {w : World} {base : Nat} {e : TypeId} {c : Nat} {v : Value} {n : Nat} {xs : List Value} (h : w.ownsRow base e c v n xs) : ∃ a cap, v = .slice a n cap ∧ (0 < n → ∃ g, a = some ⟨g, 0, none⟩ ∧ base ≤ g ∧ g < w.heap.size) := by
  rcases h.2 with ⟨rfl, rfl⟩ | ⟨g, cap, cur, rfl, hb, hg, _⟩
  · exact ⟨none, 0, rfl, fun h => by omega⟩
  · exact ⟨_, cap, rfl, fun _ => ⟨g, rfl, hb, lt_of_heap hg⟩⟩
theorem row_pos {w : World} {base : Nat} {e : TypeId} {c : Nat} {a : Option Addr} {n n' cap : Nat} {xs : List Value} (h : w.ownsRow base e c (.slice a n cap) n' xs) (hn : 0 < n') : ∃ g, a = some ⟨g, 0, none⟩ ∧ base ≤ g ∧ g < w.heap.size := by
  rcases h.2 with ⟨_, h0⟩ | ⟨g, cap', cur, hv, hb, hg, _⟩
  · omega
  · injection hv with h1
    exact ⟨g, h1, hb, lt_of_heap hg⟩
theorem max64 {n : Int} (h : (Lit.int .i64 n).wf = true) : -9223372036854775808 ≤ n ∧ n ≤ 9223372036854775807 := by
  simpa [Lit.wf, IntKind.min, IntKind.max, IntKind.bits, IntKind.signed] using h
end Go.My
/- General: a list lies at a place. Nothing here names a program. -/
namespace Go.My
open Go.RowKit

/-- A list lies at a place: its elements' cells, one behind the other. -/
def LiesAt {α : Type} (w : World) (a : Option Addr) (c : Nat) (f : α → List Value) (l : List α) : Prop := ∀ (i : Nat) x, l[i]? = some x → ∃ g o, a = some ⟨g, o, none⟩ ∧ g < w.heap.size ∧ ∀ (j : Nat) v, (f x)[j]? = some v → w.cell? ⟨g, o + i * c + j, none⟩ = some v
section
variable {α : Type} {w w' : World} {a : Option Addr} {c : Nat} {f : α → List Value} {l : List α}
theorem LiesAt.nil (w : World) (a : Option Addr) (c : Nat) (f : α → List Value) : LiesAt w a c f [] := fun i x h => by simp at h
theorem LiesAt.below (h : LiesAt w a c f l) (hb : Below w.heap.size w w') : LiesAt w' a c f l := fun i x hi => by
  obtain ⟨g, o, h1, h2, h3⟩ := h i x hi
  exact ⟨g, o, h1, Nat.lt_of_lt_of_le h2 hb.size, fun j v hj => (hb.cell (p := ⟨g, _, none⟩) h2).trans (h3 j v hj)⟩
theorem LiesAt.drewN (h : LiesAt w a c f l) (n : Nat) : LiesAt (w.drewN n) a c f l := h
theorem LiesAt.wrote {S : List Nat} (h : LiesAt w a c f l) (hw : Wrote S w w') (hS : ∀ g o, a = some ⟨g, o, none⟩ → l ≠ [] → g ∉ S) : LiesAt w' a c f l := fun i x hi => by
  obtain ⟨g, o, h1, h2, h3⟩ := h i x hi
  refine ⟨g, o, h1, Nat.lt_of_lt_of_le h2 hw.size, fun j v hj => (hw.cell (p := ⟨g, _, none⟩) h2 (hS g o h1 ?_)).trans (h3 j v hj)⟩
  rintro rfl
  simp at hi
theorem LiesAt.at (h : LiesAt w a c f l) {i : Nat} {x : α} (hi : l[i]? = some x) : ∃ g o, a = some ⟨g, o, none⟩ ∧ g < w.heap.size ∧ ∀ (j : Nat) v, (f x)[j]? = some v → w.cell? ⟨g, o + i * c + j, none⟩ = some v := h i x hi
/-- of elements of one cell -/
theorem LiesAt.at1 {e : α → Value} (h : LiesAt w a 1 (fun x => [e x]) l) {i : Nat} {x : α} (hi : l[i]? = some x) : ∃ g o, a = some ⟨g, o, none⟩ ∧ g < w.heap.size ∧ w.cell? ⟨g, o + i, none⟩ = some (e x) := by
  obtain ⟨g, o, h1, h2, h3⟩ := h i x hi
  have := h3 0 _ rfl
  rw [Nat.mul_one, Nat.add_zero] at this
  exact ⟨g, o, h1, h2, this⟩
/-- a row of a call's own -/
theorem row_liesAt {base : Nat} {e : TypeId} {n cap : Nat} (h : w.ownsRow base e c (.slice a n cap) n (l.flatMap f)) (hc : ∀ x, (f x).length = c) (hn : n = l.length) : LiesAt w a c f l := by
  intro i x hi
  have hil : i < l.length := (List.getElem?_eq_some_iff.1 hi).1
  obtain ⟨g, rfl, _, hg⟩ := row_pos h (by omega)
  refine ⟨g, 0, rfl, hg, fun j v hj => ?_⟩
  rw [Nat.zero_add]
  have hjc : j < c := by rw [← hc x]; exact (List.getElem?_eq_some_iff.1 hj).1
  rw [row_cell h hc hn hi hjc]
  exact hj
theorem flat_one {β : Type} (e : α → β) (l : List α) : l.flatMap (fun x => [e x]) = l.map e := by
  induction l with
  | nil => rfl
  | cons x l ih => rw [List.flatMap_cons, List.map_cons, ih]; rfl
theorem row_lies1 {base : Nat} {t : TypeId} {n cap : Nat} {e : α → Value} (h : w.ownsRow base t 1 (.slice a n cap) n (l.map e)) (hn : n = l.length) : LiesAt w a 1 (fun x => [e x]) l := by
  refine row_liesAt (base := base) (e := t) (cap := cap) ?_ (fun _ => rfl) hn
  rw [flat_one]
  exact h
/-- a slice's value, opened -/
theorem row_slice {base : Nat} {t : TypeId} {v : Value} {n : Nat} {xs : List Value} (h : w.ownsRow base t c v n xs) : ∃ a cap, v = .slice a n cap := by
  obtain ⟨a, cap, h1, _⟩ := row_form h
  exact ⟨a, cap, h1⟩
theorem lies_of_list {R : World → List Value → α → Prop} (h : ListAt w a c R l) (hR : ∀ cs x, R w cs x → cs = f x) : LiesAt w a c f l := by
  intro i x hi
  obtain ⟨b, off, cs, h1, h2, h3, h4, h5⟩ := h i x hi
  refine ⟨b, off, h1, h2, fun j v hj => ?_⟩
  rw [← hR cs x h5] at hj
  exact h4 j v hj
end
end Go.My
/- General: lists of keys: whether one is among them; sorted. Nothing here names a program. -/
namespace Go.My
theorem snoc_ind {α : Type} {p : List α → Prop} (nil : p []) (snoc : ∀ l x, p l → p (l ++ [x])) (l : List α) : p l := by
  have h : ∀ l : List α, p l.reverse := by
    intro l
    induction l with
    | nil => exact nil
    | cons x l ih => rw [List.reverse_cons]; exact snoc _ _ ih
  have := h l.reverse
  rwa [List.reverse_reverse] at this
def hasK (l : List ByteArray) (k : ByteArray) : Bool := l.any fun x => decide (x = k)
theorem hasK_iff {l : List ByteArray} {k : ByteArray} : hasK l k = true ↔ k ∈ l := by
  unfold hasK
  rw [List.any_eq_true]
  constructor
  · rintro ⟨x, hx, h⟩
    have : x = k := by simpa using h
    rwa [this] at hx
  · exact fun h => ⟨k, h, by simp⟩
theorem hasK_snoc (f : List ByteArray) (x k : ByteArray) : hasK (f ++ [x]) k = (hasK f k || decide (x = k)) := by
  unfold hasK; rw [List.any_append]; simp
theorem nodup_len {α : Type} [DecidableEq α] : ∀ {l m : List α}, l.Nodup → (∀ x ∈ l, x ∈ m) → l.length ≤ m.length
  | [], _, _, _ => Nat.zero_le _
  | x :: l, m, hn, h => by
    obtain ⟨h1, h2⟩ := List.nodup_cons.1 hn
    have hx := h x (by simp)
    have := nodup_len (m := m.erase x) h2 fun y hy => (List.mem_erase_of_ne (by rintro rfl; exact h1 hy)).2 (h y (by simp [hy]))
    rw [List.length_erase_of_mem hx] at this
    have hp := List.length_pos_of_mem hx
    simp only [List.length_cons]
    omega
theorem hasK_not {l : List ByteArray} {k : ByteArray} : hasK l k = false ↔ ¬ k ∈ l := by
  rw [← hasK_iff]; simp
/-! ### sorted lists of keys -/
def sortB (l : List ByteArray) : List ByteArray := ((l.map (·.data.toList)).mergeSort leB).map fun x => ⟨x.toArray⟩
theorem bytes_back (l : List ByteArray) : (l.map (·.data.toList)).map (fun x => (⟨x.toArray⟩ : ByteArray)) = l := by
  rw [List.map_map]
  conv => rhs; rw [← List.map_id l]
  refine List.map_congr_left fun x _ => ?_
  cases x
  simp
theorem sortB_perm (l : List ByteArray) : (sortB l).Perm l := by
  have h := (List.mergeSort_perm (l.map (·.data.toList)) leB).map (fun x => (⟨x.toArray⟩ : ByteArray))
  rw [bytes_back] at h
  exact h
theorem sortB_congr {l l' : List ByteArray} (h : l.Perm l') : sortB l = sortB l' := by
  unfold sortB
  rw [mergeSort_of_perm (h.map _)]
theorem sortB_lt {l : List ByteArray} (hn : l.Nodup) : (sortB l).Pairwise (fun a b => lessK a b = true) := by
  have h1 : ((l.map (·.data.toList)).mergeSort leB).Pairwise (fun x y => x ≤ y) := by
    have := List.pairwise_mergeSort (le := leB) (fun a b c => by simpa [leB] using fun h1 h2 => List.le_trans h1 h2) (fun a b => by simpa [leB] using List.le_total a b) (l.map (·.data.toList))
    exact this.imp (fun h => by simpa [leB] using h)
  have h2 : ((l.map (·.data.toList)).mergeSort leB).Nodup := by
    refine (List.mergeSort_perm _ _).nodup_iff.2 ?_
    refine List.pairwise_map.2 (hn.imp fun {a b} hne e => hne ?_)
    cases a with | mk a => cases b with | mk b => cases a; cases b; simp at e; rw [e]
  unfold sortB
  refine List.pairwise_map.2 ((h1.and h2).imp fun {a b} h => ?_)
  rw [lessK_lt, Lib.toList_data, Lib.toList_data]
  rcases List.le_iff_lt_or_eq.1 h.1 with h3 | h3
  · exact h3
  · exact absurd h3 h.2
theorem mem_sortB {l : List ByteArray} {k : ByteArray} : k ∈ sortB l ↔ k ∈ l := (sortB_perm l).mem_iff
theorem length_sortB (l : List ByteArray) : (sortB l).length = l.length := (sortB_perm l).length_eq

end Go.My
/- General: arguments opened, with the reach's bounds on all that is read in them. Nothing here names a program. -/
namespace Go.My
open Go.ChangeShapes Go.WideShapes Go.Deep Go.RowKit

section
variable {H : Type} {enc : TypeId × Value → H} {P : Program} {w : World} {base : Nat} {spare : Nat → Bool} {held : Bool}

/-- All that is read takes no more than the reach. -/
def Within (P : Program) (t : TypeId) (d : DataW H) : Prop := ∀ k ∈ d.weights P t, k ≤ reachBytes
theorem weights_all {P : Program} {e : TypeId} : ∀ {l : List (DataW H)} {d : DataW H}, d ∈ l → ∀ n ∈ d.weights P e, n ∈ DataW.weightsAll P e l
  | x :: l, d, hd, n, hn => by
    simp only [DataW.weightsAll, List.mem_append]
    rcases List.mem_cons.1 hd with rfl | hd
    · exact .inl hn
    · exact .inr (weights_all hd n hn)
theorem within_args {ts : List TypeId} {ds : List (DataW H)} (h : (DataW.weightsEach P ts ds).all (· ≤ reachBytes) = true) {j : Nat} {t : TypeId} {d : DataW H} (ht : ts[j]? = some t) (hd : ds[j]? = some d) : Within P t d := fun k hk => by
  have := List.all_eq_true.1 h k (DataW.weights_mem_each ht hd k hk)
  simpa using this

theorem open_listB {α : Type} {t e : TypeId} {c fuel : Nat} {R : World → List Value → α → Prop} {a : Option Addr} {len cap : Nat} {x : DataW H × List MemPlace} (ht : P.underlying t = some (.slice e)) (hC : P.cellsOf e = c) (hc : 0 < c)
    (hR : ∀ (n : Nat) (cs : List Value) (d : DataW H × List MemPlace), cs.length = c → DataW.trod enc P w base spare held n e cs = some d → Within P e d.1 → ∃ y, R w cs y)
    (h : DataW.trod enc P w base spare held fuel t [.slice a len cap] = some x) (hx : Within P t x.1) : ∃ l : List α, l.length = len ∧ len ≤ cap ∧ cap ≤ maxLen ∧ len * P.bytesOf e ≤ reachBytes ∧ ListAt w a c R l := by
  rcases open_slice ht h with ⟨h0, _⟩ | ⟨ad, len', cap', m, n, D, Pl, hcs, _, hl, hcm, hm, hxe, hi⟩
  · simp only [List.cons.injEq, Value.slice.injEq, and_true] at h0
    obtain ⟨_, rfl, rfl⟩ := h0
    exact ⟨[], rfl, Nat.le_refl _, Nat.zero_le _, by simp, ListAt.nil _ _ _ _⟩
  · simp only [List.cons.injEq, Value.slice.injEq, and_true] at hcs
    obtain ⟨rfl, rfl, rfl⟩ := hcs
    have hlm : len ≤ m := by rw [hm]; split <;> omega
    have hb : len * P.bytesOf e ≤ reachBytes := by
      have := hx ((len + (m - len)) * P.bytesOf e) (by rw [hxe]; simp [DataW.weights, ht])
      exact Nat.le_trans (Nat.mul_le_mul_right _ (by omega)) this
    have hD : ∀ i, i < len → Within P e (D i) := fun i hi k hk => hx k (by
      rw [hxe]
      simp only [DataW.weights, ht, List.mem_cons, List.mem_append]
      exact .inr (.inl (weights_all (List.mem_map.2 ⟨i, List.mem_range.2 hi, rfl⟩) k hk)))
    suffices hs : ∃ l : List α, l.length = len ∧ ListAt w (some ad) c R l by
      obtain ⟨l, h1, h2⟩ := hs
      exact ⟨l, h1, hl, hcm, hb, h2⟩
    refine list_of (Q := fun (i : Nat) (y : α) => ∃ b off cs, some ad = some ⟨b, off, none⟩ ∧ b < w.heap.size ∧ cs.length = c ∧ (∀ j v, cs[j]? = some v → w.cell? ⟨b, off + i * c + j, none⟩ = some v) ∧ R w cs y) len ?_
    intro i hil
    obtain ⟨cs', hc', htr⟩ := hi i (by omega)
    rw [hC] at hc'
    obtain ⟨_, hlen, hat⟩ := World.cells?_some hc'
    obtain ⟨y, hy⟩ := hR _ _ _ hlen htr (hD i hil)
    obtain ⟨b, off, spot⟩ := ad
    have hspot : spot = none := by
      obtain ⟨cs0, hc0, _⟩ := hi 0 (by omega)
      rw [hC] at hc0
      obtain ⟨_, hl0, hat0⟩ := World.cells?_some hc0
      have h0 := hat0 0 hc
      rw [List.getElem?_eq_getElem (by omega)] at h0
      have := World.cell?_spot h0
      simpa [Addr.add] using this
    subst hspot
    have cc : ∀ j v, cs'[j]? = some v → w.cell? ⟨b, off + i * c + j, none⟩ = some v := by
      intro j v hv
      have hj : j < cs'.length := (List.getElem?_eq_some_iff.1 hv).1
      have := hat j (by omega)
      rw [Addr.add_lit, Addr.add_lit, hv] at this
      exact this
    have h0 := cc 0 _ (List.getElem?_eq_getElem (by omega))
    exact ⟨y, b, off, cs', rfl, World.block_lt_of_cell? w _ h0, hlen, cc, hy⟩

/-- a field of one cell, of a struct, with its bounds -/
theorem open_fieldB {ts : TypeId} {fs : Array Field} {fuel : Nat} {cs : List Value} {x : DataW H × List MemPlace} (hs : P.underlying ts = some (.struct fs)) (hone : oneCellFields P fs = true)
    (h : DataW.trod enc P w base spare held fuel ts cs = some x) (hx : Within P ts x.1) (j : Nat) (f : Field) (v : Value) (hj : fs[j]? = some f) (hv : cs[j]? = some v) : ∃ n y, DataW.trod enc P w base spare held n f.type [v] = some y ∧ Within P f.type y.1 := by
  obtain ⟨ys, n', _, hxe, _, hyl, hf⟩ := DataW.trod_struct hs h
  obtain ⟨ho, hk⟩ := hone_of hone j f hj
  have h1 := hf j f hj
  rw [ho, hk] at h1
  have hjl := (List.getElem?_eq_some_iff.1 hv).1
  have h2 : (cs.drop j).take 1 = [v] := by
    rw [List.drop_eq_getElem_cons hjl]
    have := (List.getElem?_eq_some_iff.1 hv).2
    simp only [List.take_succ_cons, List.take_zero]
    rw [this]
  rw [h2] at h1
  have hjf := (Array.getElem?_eq_some_iff.1 hj).1
  have hy : ys[j]? = some (ys[j]'(by omega)) := List.getElem?_eq_getElem (by omega)
  rw [hy] at h1
  refine ⟨n', _, h1, fun k hk => hx k ?_⟩
  rw [hxe]
  simp only [DataW.weights, hs]
  refine DataW.weights_mem_each (j := j) (t := f.type) (d := (ys[j]'(by omega)).1) ?_ ?_ k hk
  · rw [List.getElem?_map]
    simp [hj]
  · rw [List.getElem?_map, hy]
    rfl
end
end Go.My
