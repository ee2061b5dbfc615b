/- What the document's functions want of the plain map. -/
import Derived.Sort.KeysCollected
import Derived.Test.YtpcmkifgfokdpaaAtM
import Derived.Deep.AppendLies
namespace Go.Proofs.Ytpcmkifgfokdpaa
open Go.RowKit Go.Maps Go.Sort Go.My Go.My.Model Go.Deep
/-- The keys of a list, sorted. -/
def sortS {V : Type} (l : List (ByteArray × V)) : List ByteArray := ((l.map (·.1.data.toList)).mergeSort leB).map fun x => ⟨x.toArray⟩
def entL (e : Ent) : List Value := [.string e.key, .string e.value, .int .i64 e.ver]
theorem entL_len (e : Ent) : (entL e).length = 3 := rfl
def runL (m : St) : List Ent := (sortS m).map fun s => (aget m s).getD Model.ent0
theorem sortS_len (m : St) : (sortS m).length = m.length := by simp [sortS]
theorem runL_len (m : St) : (runL m).length = m.length := by simp [runL, sortS_len]
theorem ent_info : (Try.prog.info? 43).map (fun i => (i.zero, i.size, i.bytes)) = some (some (entV Model.ent0), 3, 40) := by kernel_rfl
theorem row_base {w : World} {base base' : Nat} {e : TypeId} {c : Nat} {v : Value} {n : Nat} {xs : List Value} (h : w.ownsRow base e c v n xs) (hb : base' ≤ base) : w.ownsRow base' e c v n xs := by
  refine ⟨h.1, ?_⟩
  rcases h.2 with h0 | ⟨g, cap, cur, rfl, hg, h3⟩
  · exact .inl h0
  · exact .inr ⟨g, cap, cur, rfl, Nat.le_trans hb hg, h3⟩
def RunDone (w : World) (m : St) (e : Ending) (w' : World) : Prop :=
  ∃ v, e = .returned v ∧ w'.ownsRow w.heap.size 43 3 v (runL m).length ((runL m).flatMap entL) ∧ Below w.heap.size w w'
def lastV (ws : List Wri) (k : ByteArray) : ByteArray := ws.foldl (fun a x => if x.1 = k then x.2 else a) ByteArray.empty
theorem lastV_snoc (ws : List Wri) (x : Wri) (k : ByteArray) : lastV (ws ++ [x]) k = if x.1 = k then x.2 else lastV ws k := by simp [lastV]
theorem aget_state (ws : List Wri) (k : ByteArray) : aget (stateOf ws) k = if countK ws k = 0 then none else some ⟨k, lastV ws k, (countK ws k : Int)⟩ := by
  induction ws using snoc_ind with
  | h0 => rfl
  | h1 ws x ih =>
    rw [stateOf_snoc]
    unfold putE
    rw [aget_aput, countK_snoc, lastV_snoc]
    by_cases h : x.1 = k
    · rw [if_pos h, if_pos h, if_pos h]
      have hv : ver (stateOf ws) x.1 = (countK ws k : Int) := by rw [ver_state, h]
      unfold nextE
      rw [hv, h]
      simp
    · rw [if_neg h, if_neg h, if_neg h, ih]
      simp
theorem sortS_mem {V : Type} {m : List (ByteArray × V)} {s : ByteArray} : s ∈ sortS m ↔ ∃ p ∈ m, p.1 = s := by
  unfold sortS
  simp only [List.mem_map, List.mem_mergeSort]
  constructor
  · rintro ⟨b, ⟨p, hp, rfl⟩, rfl⟩
    exact ⟨p, hp, rfl⟩
  · rintro ⟨p, hp, rfl⟩
    exact ⟨_, ⟨p, hp, rfl⟩, rfl⟩
theorem mem_state {ws : List Wri} {s : ByteArray} : s ∈ sortS (stateOf ws) ↔ countK ws s ≠ 0 := by
  rw [sortS_mem]
  constructor
  · rintro ⟨p, hp, rfl⟩ h0
    have h1 := aget_mem (good_state ws).nodup (k := p.1) (v := p.2) hp
    rw [aget_state, if_pos h0] at h1
    cases h1
  · intro h
    have h1 := aget_state ws s
    rw [if_neg h] at h1
    exact ⟨_, aget_some_mem h1, rfl⟩
def entOf (ws : List Wri) (k : ByteArray) : Ent := ⟨k, lastV ws k, (countK ws k : Int)⟩
theorem runL_eq (ws : List Wri) : runL (stateOf ws) = (sortS (stateOf ws)).map (entOf ws) := by
  unfold runL
  refine List.map_congr_left fun s hs => ?_
  rw [aget_state, if_neg (mem_state.1 hs)]
  rfl
theorem run_mem {ws : List Wri} {e : Ent} : e ∈ runL (stateOf ws) ↔ countK ws e.key ≠ 0 ∧ e = entOf ws e.key := by
  rw [runL_eq, List.mem_map]
  constructor
  · rintro ⟨s, hs, rfl⟩
    exact ⟨mem_state.1 hs, rfl⟩
  · rintro ⟨h, h2⟩
    exact ⟨_, mem_state.2 h, h2.symm⟩
theorem run_few (ws : List Wri) : (runL (stateOf ws)).length ≤ ws.length := by
  rw [runL_len]
  exact (good_state ws).few
theorem less_lt : ∀ (x y : List UInt8), Op.bytesLess x y = decide (x < y)
  | [], [] => by simp [Op.bytesLess]
  | _ :: _, [] => by simp [Op.bytesLess]
  | [], _ :: _ => by simp [Op.bytesLess]
  | a :: x, b :: y => by
    rw [Op.bytesLess, less_lt x y]
    simp only [List.cons_lt_cons_iff]
    by_cases h1 : a < b <;> by_cases h2 : a = b <;> by_cases h3 : x < y <;> simp [h1, h2, h3]
theorem sortS_lt {V : Type} {m : List (ByteArray × V)} (hn : (m.map (·.1)).Nodup) : (sortS m).Pairwise fun x y => Op.bytesLess x.toList y.toList = true := by
  have h1 : ((m.map (·.1.data.toList)).mergeSort leB).Pairwise (fun x y => x ≤ y) := by
    have := List.pairwise_mergeSort (le := leB) (fun a b c => by simpa [leB] using fun h1 h2 => List.le_trans h1 h2) (fun a b => by simpa [leB] using List.le_total a b) (m.map (·.1.data.toList))
    exact this.imp fun h => by simpa [leB] using h
  have h2 : ((m.map (·.1.data.toList)).mergeSort leB).Nodup := by
    refine (List.mergeSort_perm _ _).nodup_iff.2 ?_
    have e : m.map (·.1.data.toList) = (m.map (·.1)).map fun s => s.data.toList := by simp
    rw [e]
    refine List.Pairwise.map _ (fun a b h hab => h ?_) hn
    cases a; cases b; simp at hab; rw [hab]
  have h3 := h1.and h2
  unfold sortS
  refine List.Pairwise.map _ (fun x y h => ?_) h3
  rw [less_lt, Lib.toList_data, Lib.toList_data]
  simp only [decide_eq_true_eq]
  exact Classical.byContradiction fun hl => h.2 (List.le_antisymm h.1 (List.not_lt.1 hl))
/-- What Run left, wherever it still is. -/
structure Left3 (w W : World) (ra : Option Addr) (L : List Ent) : Prop where
  below : Below w.heap.size w W
  ent : ∀ (i : Nat) e, L[i]? = some e → ∃ g, ra = some ⟨g, 0, none⟩ ∧ w.heap.size ≤ g ∧ g < W.heap.size ∧ ∀ W', Below W.heap.size W W' → W'.cell? ⟨g, i * 3, none⟩ = some (.string e.key) ∧ W'.cell? ⟨g, i * 3 + 1, none⟩ = some (.string e.value) ∧ W'.cell? ⟨g, i * 3 + 2, none⟩ = some (.int .i64 e.ver)
theorem left_open {w W : World} {m : St} {e : Ending} (h : RunDone w m e W) : ∃ ra cap, e = .returned (.slice ra (runL m).length cap) ∧ Left3 w W ra (runL m) := by
  obtain ⟨v, rfl, hrow, hb⟩ := h
  obtain ⟨ra, cap, rfl, hpos⟩ := row_form hrow
  refine ⟨ra, cap, rfl, hb, fun i e hi => ?_⟩
  have hlt := (List.getElem?_eq_some_iff.1 hi).1
  obtain ⟨g, rfl, h1, h2⟩ := hpos (by omega)
  have hc := fun j hj => row_cell hrow entL_len rfl hi (j := j) hj
  refine ⟨g, rfl, h1, h2, fun W' hb' => ?_⟩
  have ce : ∀ j, W'.cell? ⟨g, j, none⟩ = W.cell? ⟨g, j, none⟩ := fun j => hb'.cell (p := ⟨g, j, none⟩) h2
  exact ⟨(ce _).trans (hc 0 (by omega)), (ce _).trans (hc 1 (by omega)), (ce _).trans (hc 2 (by omega))⟩
def RowsIn (w : World) (ra : Option Addr) (L : List Ent) : Prop := ∀ (i : Nat) e, L[i]? = some e → ∃ g, ra = some ⟨g, 0, none⟩ ∧ g < w.heap.size ∧ w.cell? ⟨g, i * 3, none⟩ = some (.string e.key) ∧ w.cell? ⟨g, i * 3 + 1, none⟩ = some (.string e.value) ∧ w.cell? ⟨g, i * 3 + 2, none⟩ = some (.int .i64 e.ver)
theorem Left3.rows {w W W' : World} {ra : Option Addr} {L : List Ent} (h : Left3 w W ra L) (hb : Below W.heap.size W W') : RowsIn W' ra L := fun i e hi => by
  obtain ⟨g, h1, _, h3, h4⟩ := h.ent i e hi
  exact ⟨g, h1, Nat.lt_of_lt_of_le h3 hb.size, h4 W' hb⟩
theorem RowsIn.below {w W : World} {ra : Option Addr} {L : List Ent} (h : RowsIn w ra L) (hb : Below w.heap.size w W) : RowsIn W ra L := fun i e hi => by
  obtain ⟨g, h1, h2, h3, h4, h5⟩ := h i e hi
  exact ⟨g, h1, Nat.lt_of_lt_of_le h2 hb.size, (hb.cell (p := ⟨g, _, none⟩) h2).trans h3, (hb.cell (p := ⟨g, _, none⟩) h2).trans h4, (hb.cell (p := ⟨g, _, none⟩) h2).trans h5⟩
end Go.Proofs.Ytpcmkifgfokdpaa
