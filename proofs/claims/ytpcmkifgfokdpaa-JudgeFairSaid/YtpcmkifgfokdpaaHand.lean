/- The model: the functions that are handed to run. -/
import Derived.Test.YtpcmkifgfokdpaaRun
import Derived.Test.YtpcmkifgfokdpaaPlain
namespace Go.Proofs.Ytpcmkifgfokdpaa
open Go.RowKit Go.My Go.My.Model

set_option maxRecDepth 100000 in
theorem always_any (x y : Value) (w : World) : Calls Try.prog 32 #[x, y] w fun e w' => e = .returned (.bool true) ∧ w = w' := by
  go_enter Try.func32, Try.ntmps32
  go_wp2
  go_ret
  exact ⟨rfl, rfl⟩
set_option maxRecDepth 100000 in
theorem all_any (x : Ent) (w : World) : Calls Try.prog 31 #[entV x] w fun e w' => e = .returned (.bool true) ∧ Below w.heap.size w w' := by
  unfold entV
  go_enter Try.func31, Try.ntmps31
  go_wp2
  go_ret
  exact ⟨rfl, (Below.refl _ w).alloc (Nat.le_refl _) _⟩

theorem str_eq (x y : ByteArray) : (x.toList == y.toList) = decide (x = y) := by
  rw [Lib.toList_data, Lib.toList_data]
  by_cases h : x = y
  · subst h; simp
  · rw [decide_eq_false h]
    simp only [beq_eq_false_iff_ne]
    exact fun e => h (Go.WideShapes.bytes_inj e)

/-- The variables that At's function has caught: the key, the version, what was found. -/
structure Caught (w : World) (pk pv pf : Nat) (k : ByteArray) (v : Int) (f : Ent) : Prop where
  bk : w.heap[pk]? = some (.cells #[.string k] 9 (0, 0))
  bv : w.heap[pv]? = some (.cells #[.int .i64 v] 2 (0, 0))
  bf : w.heap[pf]? = some (.cells #[.string f.key, .string f.value, .int .i64 f.ver] 43 (0, 0))
theorem Caught.wrote {S : List Nat} {w w' : World} {pk pv pf : Nat} {k : ByteArray} {v : Int} {f : Ent} (h : Caught w pk pv pf k v f) (hw : Wrote S w w') (h1 : pk ∉ S) (h2 : pv ∉ S) (h3 : pf ∉ S) : Caught w' pk pv pf k v f :=
  ⟨hw.heap h.bk h1, hw.heap h.bv h2, hw.heap h.bf h3⟩
def AtHand (w : World) (pk pv pf : Nat) (k : ByteArray) (v : Int) (f : Ent) (b : Bool) (e : Ending) (w' : World) : Prop :=
  e = .returned (.bool b) ∧ Caught w' pk pv pf k v f ∧ Wrote [pf] w w'

set_option maxRecDepth 100000 in
theorem at1_no (pk pv pf : Nat) (k : ByteArray) (v : Int) (e : Ent) (w : World) (h : Caught w pk pv pf k v ent0) (hm : ¬ (e.key = k ∧ e.ver = v)) :
    Calls Try.prog 33 #[entV e, .pointer (some ⟨pk, 0, none⟩), .pointer (some ⟨pv, 0, none⟩), .pointer (some ⟨pf, 0, none⟩)] w (AtHand w pk pv pf k v ent0 true) := by
  have H := Lib.hid h
  obtain ⟨ek, ev, en⟩ := e
  simp only at hm
  unfold entV
  have q1 : w.cell? ⟨pk, 0, none⟩ = some (.string k) := by rw [cell_of_row _ _ _ _ _ _ h.bk]; rfl
  have q2 : w.cell? ⟨pv, 0, none⟩ = some (.int .i64 v) := by rw [cell_of_row _ _ _ _ _ _ h.bv]; rfl
  have q3 : w.cell? ⟨pf, 2, none⟩ = some (.int .i64 0) := by rw [cell_of_row _ _ _ _ _ _ h.bf]; rfl
  have hl1 := lt_of_heap h.bk
  have hl2 := lt_of_heap h.bv
  have hl3 := lt_of_heap h.bf
  have HM := Lib.hid hm
  clear h hm
  by_cases hk : ek = k
  · have s1 : (ek.toList == k.toList) = true := by rw [str_eq]; simpa using hk
    have s2 : (en == v) = false := by have := HM.out; simp only [hk, true_and] at this; simpa using this
    clear hk
    go_enter Try.func33, Try.ntmps33
    go_wp2_with fail
    go_ret
    exact ⟨rfl, H.out.wrote (S := []) ((Wrote.refl _ _).alloc _) (by simp) (by simp) (by simp), (Wrote.refl _ _).alloc _⟩
  · have s1 : (ek.toList == k.toList) = false := by rw [str_eq]; simpa using hk
    clear hk
    go_enter Try.func33, Try.ntmps33
    go_wp2_with fail
    go_ret
    exact ⟨rfl, H.out.wrote (S := []) ((Wrote.refl _ _).alloc _) (by simp) (by simp) (by simp), (Wrote.refl _ _).alloc _⟩

set_option maxRecDepth 100000 in
theorem at1_yes (pk pv pf : Nat) (k : ByteArray) (v : Int) (e : Ent) (w : World) (h : Caught w pk pv pf k v ent0) (hk : e.key = k) (hv : e.ver = v) (hv1 : 1 ≤ v) (hn1 : pk ≠ pf) (hn2 : pv ≠ pf) :
    Calls Try.prog 33 #[entV e, .pointer (some ⟨pk, 0, none⟩), .pointer (some ⟨pv, 0, none⟩), .pointer (some ⟨pf, 0, none⟩)] w (AtHand w pk pv pf k v e false) := by
  have H := Lib.hid h
  obtain ⟨ek, ev, en⟩ := e
  simp only at hk hv
  subst hk
  subst hv
  unfold entV
  have q1 : w.cell? ⟨pk, 0, none⟩ = some (.string ek) := by rw [cell_of_row _ _ _ _ _ _ h.bk]; rfl
  have q2 : w.cell? ⟨pv, 0, none⟩ = some (.int .i64 en) := by rw [cell_of_row _ _ _ _ _ _ h.bv]; rfl
  have q3 : w.cell? ⟨pf, 0, none⟩ = some (.string ent0.key) := by rw [cell_of_row _ _ _ _ _ _ h.bf]; rfl
  have q4 : w.cell? ⟨pf, 1, none⟩ = some (.string ent0.value) := by rw [cell_of_row _ _ _ _ _ _ h.bf]; rfl
  have q5 : w.cell? ⟨pf, 2, none⟩ = some (.int .i64 0) := by rw [cell_of_row _ _ _ _ _ _ h.bf]; rfl
  have fz : ∀ i, w.frozen? ⟨pf, i, none⟩ = false := fun i => by simp [World.frozen?, h.bf]
  have hl1 := lt_of_heap h.bk
  have hl2 := lt_of_heap h.bv
  have hl3 := lt_of_heap h.bf
  have s1 : (ek.toList == ek.toList) = true := by simp
  have s2 : (en == en) = true := by simp
  have s3 : (en == 0) = false := by simp; omega
  clear h
  go_enter Try.func33, Try.ntmps33
  go_wp2_with fail
  go_ret
  have o : ∀ (W : World) (i : Nat) (u : Value) (b : Nat), b ≠ pf → (W.setCell ⟨pf, i, none⟩ u).heap[b]? = W.heap[b]? := fun W i u b hb => Below.heap_setCell _ _ _ _ hb
  have z : ∀ (W : World) (i : Nat) (u : Value), (W.setCell ⟨pf, i, none⟩ u).heap.size = W.heap.size := fun W i u => by simp
  refine ⟨rfl, ⟨?_, ?_, ?_⟩, ((((Wrote.refl [pf] w).setCell (.inl (List.mem_singleton.2 rfl)) _).setCell (.inl (List.mem_singleton.2 rfl)) _).setCell (.inl (List.mem_singleton.2 rfl)) _).alloc _⟩
  · refine (Below.heap_alloc _ _ _ (by rw [z, z, z]; exact hl1)).trans ?_
    rw [o _ _ _ _ hn1, o _ _ _ _ hn1, o _ _ _ _ hn1]
    exact H.out.bk
  · refine (Below.heap_alloc _ _ _ (by rw [z, z, z]; exact hl2)).trans ?_
    rw [o _ _ _ _ hn2, o _ _ _ _ hn2, o _ _ _ _ hn2]
    exact H.out.bv
  · refine (Below.heap_alloc _ _ _ (by rw [z, z, z]; exact hl3)).trans ?_
    have h1 := heap_setCell_same _ pf 0 _ _ (.string ek) H.out.bf
    have h2 := heap_setCell_same _ pf 1 _ _ (.string ev) h1
    exact heap_setCell_same _ pf 2 _ _ (.int .i64 en) h2

set_option maxRecDepth 100000 in
/-- one read -/
theorem read1_any (r : ByteArray × Int) (w : World) (pm b : Nat) (m : St) (hp : w.heap[pm]? = some (.cells #[.map (some b)] 80 (0, 0))) (hm : MapAt w b bs entV m) :
    Calls Try.prog 30 #[.agg #[.string r.1, .int .i64 r.2], .pointer (some ⟨pm, 0, none⟩)] w fun e w' => e = .returned (.bool (!decide (ver m r.1 = r.2))) ∧ Below w.heap.size w w' := by
  obtain ⟨k, v⟩ := r
  obtain ⟨e0, he, hev⟩ := look_ver m k
  have hlk : ∀ o, (Instr.lookup 80 (.map (some b)) (.string k) false).run Try.prog (w.alloc o) = .ok (entV e0) (w.alloc o) := fun o => by
    have := (hm.alloc o).lookup1 kStr Try.underlying80 (zero26 (w.alloc o)) k
    rw [he] at this
    exact this
  have q1 : w.cell? ⟨pm, 0, none⟩ = some (.map (some b)) := by rw [cell_of_row _ _ _ _ _ _ hp]; rfl
  have hl := lt_of_heap hp
  have e1 : (!decide (ver m k = v)) = (e0.ver != v) := by rw [hev]; simp [bne]; rfl
  simp only
  rw [e1]
  obtain ⟨k0, v0, n0⟩ := e0
  unfold entV at hlk
  simp only at hlk ⊢
  have hf := field2
  clear hp hm he hev e1
  go_enter Try.func30, Try.ntmps30
  go_wp2_with fail
  go_ret
  exact ⟨rfl, (Below.refl _ w).alloc (Nat.le_refl _) _⟩
end Go.Proofs.Ytpcmkifgfokdpaa
