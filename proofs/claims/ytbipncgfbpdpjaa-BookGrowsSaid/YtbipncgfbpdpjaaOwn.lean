/- Book: the law of own digests, walked. -/
import Derived.Test.YtbipncgfbpdpjaaLaws
namespace Go.Proofs.Ytbipncgfbpdpjaa
open Go.RowKit Go.My

def i64 (n : Int) : Value := .int .i64 n
theorem int_info : (Try.prog.info? 3).map (fun i => (i.zero, i.size, i.bytes)) = some (some (.int .i64 0), 1, 8) := by kernel_rfl

theorem BookAt.wrote {S : List Nat} {w w' : World} {base b m : Nat} {v : Value} {ts : List ByteArray} (h : BookAt w base b m v ts) (hw : Wrote S w w') (hb : b ∉ S) (hm : m ∉ S) (hv : ∀ g, v.ownBlock = some g → g ∉ S) : BookAt w' base b m v ts :=
  ⟨hw.heap h.blk hb, h.map.touch hw hm, row_wrote h.row hw hv, h.bb, h.bm, h.nb⟩
theorem BookAt.apart {w : World} {base b m : Nat} {v : Value} {ts : List ByteArray} (h : BookAt w base b m v ts) {base' : Nat} {all : Value} {n : Nat} {xs : List Value} (ha : w.ownsRow base' 3 1 all n xs) {g : Nat} (hg : all.ownBlock = some g) : g ≠ b ∧ g ≠ m ∧ v.ownBlock ≠ some g := by
  obtain ⟨_, cur, h1⟩ := row_block ha hg
  refine ⟨?_, fun e => ?_, rows_apart ha h.row (by decide) hg⟩
  · rintro rfl
    have := h.blk
    rw [h1] at this
    cases this
  · exact h.map.ne_cells h1 e.symm

theorem str_eq (x y : ByteArray) : (x.toList == y.toList) = decide (x = y) := by
  rw [Lib.toList_data, Lib.toList_data]
  by_cases h : x = y
  · subst h; simp
  · rw [decide_eq_false h]
    simp only [beq_eq_false_iff_ne]
    exact fun e => h (Go.WideShapes.bytes_inj e)
/-- What has been told of the first k texts. -/
def Told (l : List ByteArray) (ts : List ByteArray) (ds : List Int) (k : Nat) : Prop :=
  ds.length = k ∧ ∀ (j : Nat) s, j < k → l[j]? = some s → (65536 < s.size ∧ ds[j]? = some (-1)) ∨ (∃ p : Nat, ds[j]? = some (p : Int) ∧ ts[p]? = some s)
theorem Told.nil (l : List ByteArray) : Told l [] [] 0 := ⟨rfl, fun j s h => by omega⟩
theorem Told.long {l ts : List ByteArray} {ds : List Int} {k : Nat} {s : ByteArray} (h : Told l ts ds k) (hk : l[k]? = some s) (hs : 65536 < s.size) : Told l ts (ds ++ [-1]) (k + 1) := by
  refine ⟨by simp [h.1], fun j t hj ht => ?_⟩
  by_cases e : j = k
  · subst e
    rw [hk] at ht
    cases ht
    exact .inl ⟨hs, by rw [← h.1]; simp⟩
  · have hjk : j < ds.length := by have := h.1; omega
    rw [List.getElem?_append_left hjk]
    exact h.2 j t (by omega) ht
theorem Told.short {l ts : List ByteArray} {ds : List Int} {k : Nat} {s : ByteArray} (h : Told l ts ds k) (hk : l[k]? = some s) (hn : ts.Nodup) : Told l (asked ts s) (ds ++ [(placeOf ts s : Int)]) (k + 1) := by
  obtain ⟨_, h2, _, h4, _⟩ := asked_ok s hn
  refine ⟨by simp [h.1], fun j t hj ht => ?_⟩
  by_cases e : j = k
  · subst e
    rw [hk] at ht
    cases ht
    exact .inr ⟨_, by rw [← h.1]; simp, h2⟩
  · have hjk : j < ds.length := by have := h.1; omega
    rw [List.getElem?_append_left hjk]
    rcases h.2 j t (by omega) ht with h5 | ⟨p, h5, h6⟩
    · exact .inl h5
    · exact .inr ⟨p, h5, h4 _ _ h6⟩

structure Has (w : World) (base b m : Nat) (k : Nat) (ts : List ByteArray) (ds : List Int) (v all : Value) (wr : World) : Prop where
  book : BookAt wr base b m v ts
  nodup : ts.Nodup
  few : ts.length ≤ k
  below : Below w.heap.size w wr
  size : base ≤ wr.heap.size
  row : wr.ownsRow base 3 1 all ds.length (ds.map i64)
def OwnRel (w : World) (base b m : Nat) (l : List ByteArray) (k : Nat) (all : Value) (wr : World) : Prop := ∃ ts ds v, Has w base b m k ts ds v all wr ∧ Told l ts ds k

theorem Has.later {w : World} {base b m k : Nat} {ts : List ByteArray} {ds : List Int} {v all : Value} {wr W : World} (h : Has w base b m k ts ds v all wr) (hb : Below wr.heap.size wr W) : Has w base b m k ts ds v all W :=
  ⟨h.book.below hb, h.nodup, h.few, h.below.trans (hb.mono h.below.size), Nat.le_trans h.size hb.size, row_below h.row hb⟩
theorem Has.more {w : World} {base b m k : Nat} {ts : List ByteArray} {ds : List Int} {v all : Value} {wr : World} (h : Has w base b m k ts ds v all wr) : Has w base b m (k + 1) ts ds v all wr :=
  ⟨h.book, h.nodup, Nat.le_succ_of_le h.few, h.below, h.size, h.row⟩
/-- behind a question -/
theorem Has.asked {w : World} {base b m k : Nat} {ts : List ByteArray} {ds : List Int} {v v' all : Value} {wr W : World} (h : Has w base b m k ts ds v all wr) (s : ByteArray) (hw0 : w.heap.size ≤ base) (hB : BookAt W base b m v' (asked ts s)) (ht : Turned wr base b m v v' W) : Has w base b m (k + 1) (asked ts s) ds v' all W := by
  obtain ⟨h1, _, _, _, h5⟩ := asked_ok s h.nodup
  refine ⟨hB, h1, by have := h.few; omega, h.below.trans (ht.below.mono hw0), Nat.le_trans h.size ht.below.size, row_wrote h.row ht.wrote fun g hg => ?_⟩
  obtain ⟨a1, a2, a3⟩ := h.book.apart h.row hg
  simp only [List.mem_cons, Option.mem_toList]
  rintro (e | e | e)
  · exact a1 e
  · exact a2 e
  · exact a3 e
/-- behind an append to 'all' -/
theorem Has.append {w : World} {base b m k : Nat} {ts : List ByteArray} {ds : List Int} {v all all' : Value} {wr w1 : World} {o : Obj} {d : Int} (h : Has w base b m k ts ds v all wr) (hw0 : w.heap.size ≤ base)
    (hown : w1.ownsRow base 3 1 all' (ds.length + 1) (ds.map i64 ++ [.int .i64 d])) (hg : (wr.alloc o).grownBy w1 all.ownBlock) : Has w base b m k ts (ds ++ [d]) v all' w1 := by
  have h1 := h.later ((Below.refl _ wr).alloc (Nat.le_refl _) o)
  have hW : Wrote all.ownBlock.toList (wr.alloc o) w1 := Wrote.of_grown hg
  have ha : ∀ g, all.ownBlock = some g → g ≠ b ∧ g ≠ m ∧ v.ownBlock ≠ some g := fun g hg => h1.book.apart h1.row hg
  refine ⟨h1.book.wrote hW ?_ ?_ ?_, h1.nodup, h1.few, h1.below.trans (hW.below h1.below.size fun g hg => ?_), Nat.le_trans h1.size hW.size, by simpa [i64] using hown⟩
  · simp only [Option.mem_toList]
    exact fun e => (ha _ e).1 rfl
  · simp only [Option.mem_toList]
    exact fun e => (ha _ e).2.1 rfl
  · intro g hv
    simp only [Option.mem_toList]
    exact fun e => (ha _ e).2.2 hv
  · simp only [Option.mem_toList] at hg
    have := (row_block h1.row hg).1
    omega
end Go.Proofs.Ytbipncgfbpdpjaa
