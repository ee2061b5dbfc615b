/- SlotsEnter: what the walk carries. -/
import Derived.Test.YtelmgaaofighpaaEmpty
namespace Go.Proofs.Ytelmgaaofighpaa
open Go.RowKit Go.My Go.My.Slots

def numOf (l : List (Int × Int)) (n : Int) : Int := (aget l n).getD (-1)
def numsK (l : List (Int × Int)) (low : Int) (k : Nat) : List Int := (List.range k).map fun (i : Nat) => numOf l (low + 1 + (i : Int))
theorem numsK_succ (l : List (Int × Int)) (low : Int) (k : Nat) : numsK l low (k + 1) = numsK l low k ++ [numOf l (low + 1 + (k : Int))] := by simp [numsK, List.range_succ]
theorem numsK_len (l : List (Int × Int)) (low : Int) (k : Nat) : (numsK l low k).length = k := by simp [numsK]
theorem numsK_get (l : List (Int × Int)) (low : Int) {k i : Nat} (h : i < k) : (numsK l low k)[i]? = some (numOf l (low + 1 + (i : Int))) := by simp [numsK, h]

structure EnRel (B : World) (s : St) (k : Nat) (vd va : Value) (wr : World) : Prop where
  below : Below B.heap.size B wr
  dec : wr.ownsRow B.heap.size 3 1 vd k ((numsK s.dec s.low k).map i64)
  acc : wr.ownsRow B.heap.size 3 1 va k ((numsK s.acc s.low k).map i64)
  apart : ∀ g, vd.ownBlock = some g → va.ownBlock ≠ some g

/-- 'decided' has grown -/
structure EnMid (B : World) (s : St) (k : Nat) (vd va : Value) (wr : World) : Prop where
  below : Below B.heap.size B wr
  dec : wr.ownsRow B.heap.size 3 1 vd (k + 1) ((numsK s.dec s.low (k + 1)).map i64)
  acc : wr.ownsRow B.heap.size 3 1 va k ((numsK s.acc s.low k).map i64)
  apart : ∀ g, vd.ownBlock = some g → va.ownBlock ≠ some g
theorem EnRel.first {B wr w1 : World} {s : St} {k : Nat} {vd va vd1 : Value} {o : Obj} {x : Int} (h : EnRel B s k vd va wr) (hx : x = numOf s.dec (s.low + 1 + (k : Int)))
    (hown : w1.ownsRow B.heap.size 3 1 vd1 (k + 1) ((numsK s.dec s.low k).map i64 ++ [.int .i64 x])) (hg : (wr.alloc o).grownBy w1 vd.ownBlock) (hat : ∀ g, vd1.ownBlock = some g → vd.ownBlock = some g ∨ g = wr.heap.size + 1) : EnMid B s k vd1 va w1 := by
  have hb : Below wr.heap.size wr (wr.alloc o) := (Below.refl _ wr).alloc (Nat.le_refl _) o
  have h1 := row_below h.dec hb
  have h2 := row_below h.acc hb
  have hW : Wrote vd.ownBlock.toList (wr.alloc o) w1 := Wrote.of_grown hg
  refine ⟨(h.below.alloc h.below.size o).trans (hW.below (h.below.alloc h.below.size o).size fun g hg' => ?_), ?_, row_wrote h2 hW fun g hg' => ?_, fun g hg1 => ?_⟩
  · simp only [Option.mem_toList] at hg'
    exact (row_block h1 hg').1
  · rw [numsK_succ, ← hx]
    simpa [i64] using hown
  · simp only [Option.mem_toList]
    exact fun e => h.apart g e hg'
  · rcases hat g hg1 with e | e
    · exact h.apart g e
    · intro e'
      obtain ⟨_, cur, h3⟩ := row_block h.acc e'
      have := lt_of_heap h3
      omega
theorem EnMid.second {B wr w1 : World} {s : St} {k : Nat} {vd va va1 : Value} {o : Obj} {x : Int} (h : EnMid B s k vd va wr) (hx : x = numOf s.acc (s.low + 1 + (k : Int)))
    (hown : w1.ownsRow B.heap.size 3 1 va1 (k + 1) ((numsK s.acc s.low k).map i64 ++ [.int .i64 x])) (hg : (wr.alloc o).grownBy w1 va.ownBlock) (hat : ∀ g, va1.ownBlock = some g → va.ownBlock = some g ∨ g = wr.heap.size + 1) : EnRel B s (k + 1) vd va1 w1 := by
  have hb : Below wr.heap.size wr (wr.alloc o) := (Below.refl _ wr).alloc (Nat.le_refl _) o
  have h1 := row_below h.dec hb
  have h2 := row_below h.acc hb
  have hW : Wrote va.ownBlock.toList (wr.alloc o) w1 := Wrote.of_grown hg
  refine ⟨(h.below.alloc h.below.size o).trans (hW.below (h.below.alloc h.below.size o).size fun g hg' => ?_), row_wrote h1 hW fun g hg' => ?_, ?_, fun g hg1 e' => ?_⟩
  · simp only [Option.mem_toList] at hg'
    exact (row_block h2 hg').1
  · simp only [Option.mem_toList]
    exact h.apart g hg'
  · rw [numsK_succ, ← hx]
    simpa [i64] using hown
  · rcases hat g e' with e | e
    · exact h.apart g hg1 e
    · obtain ⟨_, cur, h3⟩ := row_block h.dec hg1
      have := lt_of_heap h3
      omega
theorem enter_low (s : St) (v : Int) : (enter s v).low = s.low ∧ (enter s v).dec = s.dec ∧ (enter s v).proofs = s.proofs := by
  unfold enter
  split <;> exact ⟨rfl, rfl, rfl⟩
theorem proofsL_of {s s' : St} (h : s'.proofs = s.proofs) : proofsL s' = proofsL s := by unfold proofsL; rw [h]
end Go.Proofs.Ytelmgaaofighpaa
