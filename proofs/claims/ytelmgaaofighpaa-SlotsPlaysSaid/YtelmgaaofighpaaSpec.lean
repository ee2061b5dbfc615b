/- The open numbers of a log, as plain data: what the calls do. Nothing here names a program. -/
import Derived.Test.YtelmgaaofighpaaGen
namespace Go.My.Slots
open Go.My

structure St where
  low : Int
  view : Int
  acc : List (Int × Int)
  dec : List (Int × Int)
  votes : List ((Int × Int × Int) × Int)
  proofs : List (Int × Int × Int × Int)

def st0 : St := ⟨0, 0, [], [], [], []⟩

def openB (s : St) (n : Int) : Bool := decide (s.low < n) && decide (n - s.low ≤ 16)

structure Inv (s : St) : Prop where
  low0 : 0 ≤ s.low
  low1 : s.low ≤ 1099511627776
  view0 : 0 ≤ s.view
  acc : ∀ p ∈ s.acc, openB s p.1 = true ∧ 0 ≤ p.2
  dec : ∀ p ∈ s.dec, openB s p.1 = true ∧ 0 ≤ p.2
  votes : ∀ p ∈ s.votes, openB s p.1.2.1 = true ∧ (p.1.1 = 1 ∨ p.1.1 = 2) ∧ 0 ≤ p.1.2.2 ∧ p.1.2.2 ≤ 9 ∧ 0 ≤ p.2
  proofs : ∀ p ∈ s.proofs, openB s p.1 = true ∧ p.2.1 = p.1 ∧ 0 ≤ p.2.2.1
  nacc : (s.acc.map (·.1)).Nodup
  ndec : (s.dec.map (·.1)).Nodup
  nvotes : (s.votes.map (·.1)).Nodup
  nproofs : (s.proofs.map (·.1)).Nodup

theorem inv0 : Inv st0 := ⟨by decide, by decide, by decide, by simp [st0], by simp [st0], by simp [st0], by simp [st0], by simp [st0], by simp [st0], by simp [st0], by simp [st0]⟩

/-- may a digest be there? -/
def onceB (s : St) (m : List (Int × Int)) (n d : Int) : Bool := openB s n && decide (0 ≤ d) && (match aget m n with | none => true | some x => decide (x = d))
def onceL (s : St) (m : List (Int × Int)) (n d : Int) : List (Int × Int) := if onceB s m n d then aput m n d else m

def accept (s : St) (n d : Int) : St := { s with acc := onceL s s.acc n d }
def decideS (s : St) (n d : Int) : St := { s with dec := onceL s s.dec n d }

def voteB (s : St) (kind n who d : Int) : Bool :=
  (decide (kind = 1) || decide (kind = 2)) && (aget s.votes (kind, n, who)).isNone && openB s n && decide (0 ≤ who) && decide (who ≤ 9) && decide (0 ≤ d)
def vote (s : St) (kind n who d : Int) : St := if voteB s kind n who d then { s with votes := aput s.votes (kind, n, who) d } else s

def proveB (s : St) (n v : Int) : Bool := openB s n && decide (0 ≤ v) && (match aget s.proofs n with | none => true | some x => decide (x.2.1 < v))
def prove (s : St) (n v d : Int) : St := if proveB s n v then { s with proofs := aput s.proofs n (n, v, d) } else s

def enterB (s : St) (v : Int) : Bool := decide (v ≤ 1073741824) && decide (s.view < v)
def enter (s : St) (v : Int) : St := if enterB s v then { s with view := v, acc := [], votes := [] } else s

/-- what stays of a thing whose numbers are closed up to one -/
def above {V : Type} (low : Int) (l : List (Int × V)) : List (Int × V) := l.filter fun p => decide (low < p.1)
def aboveV (low : Int) (l : List ((Int × Int × Int) × Int)) : List ((Int × Int × Int) × Int) := l.filter fun p => decide (low < p.1.2.1)
def cutTo (s : St) (low : Int) : St := ⟨low, s.view, above low s.acc, above low s.dec, aboveV low s.votes, above low s.proofs⟩
def cutB (s : St) (low : Int) : Bool := decide (s.low ≤ low) && decide (low ≤ 1099511627776)
def cut (s : St) (low : Int) : St := if cutB s low then cutTo s low else s

def nums : List Int := [0, 1, 2, 3, 4, 5, 6, 7, 8, 9]
def whoL (s : St) (kind n d : Int) : List Int := nums.filter fun w => decide (aget s.votes (kind, n, w) = some d)

/-! ### the calls keep what holds -/
theorem openB_iff {s : St} {n : Int} : openB s n = true ↔ s.low < n ∧ n - s.low ≤ 16 := by simp [openB]

theorem onceL_mem {s : St} {m : List (Int × Int)} {n d : Int} (hm : ∀ p ∈ m, openB s p.1 = true ∧ 0 ≤ p.2) : ∀ p ∈ onceL s m n d, openB s p.1 = true ∧ 0 ≤ p.2 := by
  intro p hp
  unfold onceL at hp
  split at hp
  · rename_i h
    unfold onceB at h
    simp only [Bool.and_eq_true, decide_eq_true_eq] at h
    rcases mem_aput hp with rfl | hp
    · exact ⟨h.1.1, h.1.2⟩
    · exact hm p hp
  · exact hm p hp
theorem onceL_nodup {s : St} {m : List (Int × Int)} {n d : Int} (hm : (m.map (·.1)).Nodup) : ((onceL s m n d).map (·.1)).Nodup := by
  unfold onceL
  split
  · exact nodup_aput n d hm
  · exact hm

theorem inv_accept {s : St} (h : Inv s) (n d : Int) : Inv (accept s n d) :=
  ⟨h.low0, h.low1, h.view0, onceL_mem h.acc, h.dec, h.votes, h.proofs, onceL_nodup h.nacc, h.ndec, h.nvotes, h.nproofs⟩
theorem inv_decide {s : St} (h : Inv s) (n d : Int) : Inv (decideS s n d) :=
  ⟨h.low0, h.low1, h.view0, h.acc, onceL_mem h.dec, h.votes, h.proofs, h.nacc, onceL_nodup h.ndec, h.nvotes, h.nproofs⟩
theorem inv_vote {s : St} (h : Inv s) (kind n who d : Int) : Inv (vote s kind n who d) := by
  unfold vote
  split
  · rename_i hb
    refine ⟨h.low0, h.low1, h.view0, h.acc, h.dec, ?_, h.proofs, h.nacc, h.ndec, nodup_aput _ _ h.nvotes, h.nproofs⟩
    intro p hp
    unfold voteB at hb
    simp only [Bool.and_eq_true, Bool.or_eq_true, decide_eq_true_eq] at hb
    rcases mem_aput hp with rfl | hp
    · exact ⟨hb.1.1.1.2, hb.1.1.1.1.1, hb.1.1.2, hb.1.2, hb.2⟩
    · exact h.votes p hp
  · exact h
theorem inv_prove {s : St} (h : Inv s) (n v d : Int) : Inv (prove s n v d) := by
  unfold prove
  split
  · rename_i hb
    refine ⟨h.low0, h.low1, h.view0, h.acc, h.dec, h.votes, ?_, h.nacc, h.ndec, h.nvotes, nodup_aput _ _ h.nproofs⟩
    intro p hp
    unfold proveB at hb
    simp only [Bool.and_eq_true, decide_eq_true_eq] at hb
    rcases mem_aput hp with rfl | hp
    · exact ⟨hb.1.1, rfl, hb.1.2⟩
    · exact h.proofs p hp
  · exact h
theorem inv_enter {s : St} (h : Inv s) (v : Int) : Inv (enter s v) := by
  unfold enter
  split
  · rename_i hb
    unfold enterB at hb
    simp only [Bool.and_eq_true, decide_eq_true_eq] at hb
    have := h.view0
    exact ⟨h.low0, h.low1, by show 0 ≤ v; omega, by simp, h.dec, by simp, h.proofs, by simp, h.ndec, by simp, h.nproofs⟩
  · exact h
theorem inv_cut {s : St} (h : Inv s) (low : Int) : Inv (cut s low) := by
  unfold cut
  split
  · rename_i hb
    unfold cutB at hb
    simp only [Bool.and_eq_true, decide_eq_true_eq] at hb
    have h0 := h.low0
    have ho : ∀ n : Int, openB s n = true → low < n → openB (cutTo s low) n = true := by
      intro n h1 h2
      rw [openB_iff] at h1 ⊢
      refine ⟨h2, ?_⟩
      show n - low ≤ 16
      omega
    refine ⟨by show 0 ≤ low; omega, hb.2, h.view0, ?_, ?_, ?_, ?_, nodup_filter _ h.nacc, nodup_filter _ h.ndec, nodup_filter _ h.nvotes, nodup_filter _ h.nproofs⟩
    · intro p hp
      obtain ⟨hp, hl⟩ := List.mem_filter.1 hp
      exact ⟨ho _ (h.acc p hp).1 (by simpa using hl), (h.acc p hp).2⟩
    · intro p hp
      obtain ⟨hp, hl⟩ := List.mem_filter.1 hp
      exact ⟨ho _ (h.dec p hp).1 (by simpa using hl), (h.dec p hp).2⟩
    · intro p hp
      obtain ⟨hp, hl⟩ := List.mem_filter.1 hp
      exact ⟨ho _ (h.votes p hp).1 (by simpa using hl), (h.votes p hp).2⟩
    · intro p hp
      obtain ⟨hp, hl⟩ := List.mem_filter.1 hp
      exact ⟨ho _ (h.proofs p hp).1 (by simpa using hl), (h.proofs p hp).2⟩
  · exact h

/-- A call, by its number: what it answers, what it leaves. -/
def doesB (s : St) (what n kind who d v : Int) : Bool :=
  if what = 0 then onceB s s.acc n d else if what = 1 then onceB s s.dec n d else if what = 2 ∨ what = 3 then voteB s kind n who d
  else if what = 4 then proveB s n v else if what = 5 then enterB s n else if what = 6 then cutB s n else openB s n
def doesS (s : St) (what n kind who d v : Int) : St :=
  if what = 0 then accept s n d else if what = 1 then decideS s n d else if what = 2 ∨ what = 3 then vote s kind n who d
  else if what = 4 then prove s n v d else if what = 5 then enter s n else if what = 6 then cut s n else s
theorem inv_does {s : St} (h : Inv s) (what n kind who d v : Int) : Inv (doesS s what n kind who d v) := by
  unfold doesS
  repeat' split
  all_goals first | exact inv_accept h _ _ | exact inv_decide h _ _ | exact inv_vote h _ _ _ _ | exact inv_prove h _ _ _ | exact inv_enter h _ | exact inv_cut h _ | exact h
end Go.My.Slots
