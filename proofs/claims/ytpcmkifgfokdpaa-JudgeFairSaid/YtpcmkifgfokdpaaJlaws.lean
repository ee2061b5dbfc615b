/- A judge: plain laws of what it finds. -/
import Derived.Test.YtpcmkifgfokdpaaJord2
namespace Go.Proofs.Ytpcmkifgfokdpaa
open Go.RowKit Go.My Go.My.Model Go.Deep
def NoPair (L : List One) (p : One → One → Bool) : Prop := ∀ (a b : Nat) x y, a < b → L[a]? = some x → L[b]? = some y → badB p x y = false
def EntAll (T : List Tx) (L : List One) : Prop := ∀ (a : Nat) x, L[a]? = some x → 0 < x.group → ∀ e ∈ x.s.ents, entOK T e = true
structure Clean (T : List Tx) (L : List One) : Prop where
  fits : fitsN T = T.length
  ran : NoPair L ranB
  dec : NoPair L decB
  ent : EntAll T L
  own : NoPair L ownB
theorem pair_zero {f : Int} {L : List One} {p : One → One → Bool} {v : Verd} (hf : f ≠ 0) (h : PairSpec f L p v) (h0 : v.fault = 0) : v = verd0 ∧ NoPair L p := by
  rcases h with h | ⟨a, b, x, y, _, _, _, _, rfl⟩
  · exact h
  · exact absurd h0 hf
theorem pair_clean {f : Int} {L : List One} {p : One → One → Bool} {v : Verd} (hn : NoPair L p) (h : PairSpec f L p v) : v = verd0 := by
  rcases h with h | ⟨a, b, x, y, h1, h2, h3, h4, rfl⟩
  · exact h.1
  · rw [hn a b x y h1 h2 h3] at h4
    cases h4
theorem ent_zero {T : List Tx} {L : List One} {v : Verd} (h : EntSpec T L v) (h0 : v.fault = 0) : v = verd0 ∧ EntAll T L := by
  rcases h with h | ⟨a, b, x, y, _, _, _, _, rfl⟩
  · exact h
  · exact absurd h0 (by simp)
theorem ent_clean {T : List Tx} {L : List One} {v : Verd} (hn : EntAll T L) (h : EntSpec T L v) : v = verd0 := by
  rcases h with h | ⟨a, b, x, e, h1, h2, h3, h4, rfl⟩
  · exact h.1
  · rw [hn a x h1 h2 e (List.mem_of_getElem? h3)] at h4
    cases h4
theorem read_zero {T : List Tx} {v : Verd} (h : ReadSpec T v) (h0 : v.fault = 0) : v = verd0 ∧ fitsN T = T.length := by
  rcases h with h | ⟨rfl, _⟩
  · exact h
  · exact absurd h0 (by simp)
theorem judge_zero {T : List Tx} {L : List One} {v : Verd} (h : JudgeSpec T L v) (h0 : v.fault = 0) : v = verd0 ∧ Clean T L := by
  rcases h with ⟨_, h⟩ | ⟨⟨z1, a1, b1⟩, h⟩
  · exact absurd h0 h
  rcases h with ⟨_, h⟩ | ⟨⟨z2, a2, b2⟩, h⟩
  · exact absurd h0 h
  rcases h with ⟨_, h⟩ | ⟨⟨z3, a3, b3⟩, h⟩
  · exact absurd h0 h
  rcases h with ⟨_, h⟩ | ⟨⟨z4, a4, b4⟩, h⟩
  · exact absurd h0 h
  rcases h with ⟨_, h⟩ | ⟨⟨z5, a5, b5⟩, h⟩
  · exact absurd h0 h
  exact ⟨h, (read_zero a1 b1).2, (pair_zero (by decide) a2 b2).2, (pair_zero (by decide) a3 b3).2, (ent_zero a4 b4).2, (pair_zero (by decide) a5 b5).2⟩
theorem judge_clean {T : List Tx} {L : List One} {v : Verd} (c : Clean T L) (h : JudgeSpec T L v) : v = verd0 := by
  have hr : ∀ v, ReadSpec T v → v = verd0 := fun v h => by
    rcases h with h | ⟨_, h⟩
    · exact h.1
    · have := c.fits; omega
  rcases h with ⟨s, h⟩ | ⟨_, h⟩
  · exact hr v s
  rcases h with ⟨s, h⟩ | ⟨_, h⟩
  · exact pair_clean c.ran s
  rcases h with ⟨s, h⟩ | ⟨_, h⟩
  · exact pair_clean c.dec s
  rcases h with ⟨s, h⟩ | ⟨_, h⟩
  · exact ent_clean c.ent s
  rcases h with ⟨s, h⟩ | ⟨_, h⟩
  · exact pair_clean c.own s
  exact h
theorem pair_fault {f : Int} {L : List One} {p : One → One → Bool} {v : Verd} (h : PairSpec f L p v) : v.fault = 0 ∨ v.fault = f := by
  rcases h with ⟨rfl, _⟩ | ⟨a, b, x, y, _, _, _, _, rfl⟩
  · exact .inl rfl
  · exact .inr rfl
/-- The fault is one of the order just if the order read what was not there; it is one of the five, or none. -/
theorem judge_fault {T : List Tx} {L : List One} {v : Verd} (h : JudgeSpec T L v) : (v.fault = 1 ↔ fitsN T < T.length) ∧ 0 ≤ v.fault ∧ v.fault ≤ 5 := by
  have hle := fits_le T
  rcases h with ⟨s, h⟩ | ⟨⟨z1, a1, b1⟩, h⟩
  · rcases s with ⟨rfl, _⟩ | ⟨rfl, h2⟩
    · exact absurd rfl h
    · exact ⟨⟨fun _ => h2, fun _ => rfl⟩, by simp, by simp⟩
  have hf := (read_zero a1 b1).2
  have key : v.fault ≠ 1 → 0 ≤ v.fault → v.fault ≤ 5 → (v.fault = 1 ↔ fitsN T < T.length) ∧ 0 ≤ v.fault ∧ v.fault ≤ 5 := fun h1 h2 h3 => ⟨⟨fun h => absurd h h1, fun h => by omega⟩, h2, h3⟩
  rcases h with ⟨s, h⟩ | ⟨_, h⟩
  · rcases pair_fault s with e | e <;> rw [e] at key ⊢ <;> exact key (by decide) (by decide) (by decide)
  rcases h with ⟨s, h⟩ | ⟨_, h⟩
  · rcases pair_fault s with e | e <;> rw [e] at key ⊢ <;> exact key (by decide) (by decide) (by decide)
  rcases h with ⟨s, h⟩ | ⟨_, h⟩
  · rcases s with ⟨rfl, _⟩ | ⟨a, b, x, y, _, _, _, _, rfl⟩ <;> exact key (by simp [verd0]) (by simp [verd0]) (by simp [verd0])
  rcases h with ⟨s, h⟩ | ⟨_, h⟩
  · rcases pair_fault s with e | e <;> rw [e] at key ⊢ <;> exact key (by decide) (by decide) (by decide)
  rw [h] at key ⊢
  exact key (by decide) (by decide) (by decide)
theorem Clean.sub {T : List Tx} {L L' : List One} (h : Clean T L) (hs : ∀ (i : Nat) x, L'[i]? = some x → L[i]? = some x) : Clean T L' :=
  ⟨h.fits, fun a b x y q h1 h2 => h.ran a b x y q (hs a x h1) (hs b y h2), fun a b x y q h1 h2 => h.dec a b x y q (hs a x h1) (hs b y h2), fun a x h1 => h.ent a x (hs a x h1), fun a b x y q h1 h2 => h.own a b x y q (hs a x h1) (hs b y h2)⟩
theorem ones_sub (G : List Int) (S : List Seen) (k : Nat) : ∀ (i : Nat) x, (onesOf G (S.take k))[i]? = some x → (onesOf G S)[i]? = some x := fun i x h => by
  rw [ones_get] at h ⊢
  rw [List.getElem?_take] at h
  split at h
  · exact h
  · cases h
theorem clean_nil {T : List Tx} (h : fitsN T = T.length) : Clean T [] := ⟨h, fun a b x y _ h => by simp at h, fun a b x y _ h => by simp at h, fun a x h => by simp at h, fun a b x y _ h => by simp at h⟩

/-! ### the live question -/
def seenOf (r : Ran) (a : Sl) : Seen := ⟨0, false, 0, 0, 0, a, ⟨none, 0, 0⟩, ⟨none, 0, 0⟩, ⟨none, 0, 0⟩, ⟨none, 0, 0⟩, ⟨none, 0, 0⟩, ⟨none, 0, 0⟩, [r], [], [], [], []⟩
theorem two_get {α : Type} {x y : α} {a b : Nat} {u v : α} (h : a < b) (h1 : [x, y][a]? = some u) (h2 : [x, y][b]? = some v) : a = 0 ∧ b = 1 ∧ u = x ∧ v = y := by
  have hb : b < 2 := (List.getElem?_eq_some_iff.1 h2).1
  obtain rfl : a = 0 := by omega
  obtain rfl : b = 1 := by omega
  simp at h1 h2
  exact ⟨rfl, rfl, h1.symm, h2.symm⟩
theorem fits_nil : fitsN [] = 0 := rfl
theorem ones_two (g h : Int) (a b : Seen) : onesOf [g, h] [a, b] = [⟨max g (-1), a⟩, ⟨max h (-1), b⟩] := rfl
theorem head_one {a b : Sl} {v : Verd} (h : JudgeSpec [] (onesOf [1, 1] [seenOf ⟨1, 5⟩ a, seenOf ⟨1, 6⟩ b]) v) : v = ⟨2, 0, 1⟩ := by
  rw [ones_two] at h
  have key : ∀ z, PairSpec 2 [⟨max 1 (-1), seenOf ⟨1, 5⟩ a⟩, ⟨max 1 (-1), seenOf ⟨1, 6⟩ b⟩] ranB z → z = ⟨2, 0, 1⟩ := by
    rintro z (⟨_, hn⟩ | ⟨i, j, x, y, h1, h2, h3, h4, rfl⟩)
    · have := hn 0 1 _ _ (by decide) rfl rfl
      exact absurd this (by simp [badB, ranB, ranDiff, seenOf]; decide)
    · obtain ⟨rfl, rfl, _, _⟩ := two_get h1 h2 h3
      rfl
  rcases h with ⟨s, h⟩ | ⟨_, h⟩
  · rcases s with ⟨rfl, _⟩ | ⟨_, h2⟩
    · exact absurd rfl h
    · rw [fits_nil] at h2; exact absurd h2 (by simp)
  rcases h with ⟨s, _⟩ | ⟨⟨z, s, h0⟩, _⟩
  · exact key v s
  · rw [key z s] at h0
    exact absurd h0 (by decide)
theorem head_two {a b : Sl} {v : Verd} (h : JudgeSpec [] (onesOf [1, 2] [seenOf ⟨1, 5⟩ a, seenOf ⟨1, 6⟩ b]) v) : v = verd0 := by
  refine judge_clean ⟨rfl, fun i j x y h1 h2 h3 => ?_, fun i j x y h1 h2 h3 => ?_, fun i x h1 h2 e he => ?_, fun i j x y h1 h2 h3 => ?_⟩ h
  · rw [ones_two] at h2 h3
    obtain ⟨rfl, rfl, rfl, rfl⟩ := two_get h1 h2 h3
    simp [badB, ranB, ranDiff, seenOf]
    intro _
    decide
  · rw [ones_two] at h2 h3
    obtain ⟨rfl, rfl, rfl, rfl⟩ := two_get h1 h2 h3
    simp [badB, decB, seenOf]
  · rw [ones_two] at h1
    have : x.s.ents = [] := by
      match i, h1 with
      | 0, h1 => simp at h1; rw [← h1]; rfl
      | 1, h1 => simp at h1; rw [← h1]; rfl
      | i + 2, h1 => simp at h1
    rw [this] at he
    cases he
  · rw [ones_two] at h2 h3
    obtain ⟨rfl, rfl, rfl, rfl⟩ := two_get h1 h2 h3
    simp [badB, ownB, seenOf]

/-! ### the order -/
theorem done_mem (l : List Say) (t : Int) : t ∈ doneL l ↔ ∃ x ∈ l, toDone x = true ∧ x.txn = t := by
  induction l using snoc_ind with
  | h0 => simp [doneL]
  | h1 l x ih =>
    have e : doneL (l ++ [x]) = doneStep (doneL l) x := by simp [doneL]
    rw [e]
    unfold doneStep
    split
    · rename_i h
      simp only [Bool.and_eq_true] at h
      rw [List.mem_append, ih]
      constructor
      · rintro (⟨y, hy, h2⟩ | h2)
        · exact ⟨y, by simp [hy], h2⟩
        · exact ⟨x, by simp, h.1, (List.mem_singleton.1 h2).symm⟩
      · rintro ⟨y, hy, h2, h3⟩
        rcases List.mem_append.1 hy with hy | hy
        · exact .inl ⟨y, hy, h2, h3⟩
        · simp at hy
          subst hy
          exact .inr (by simp [h3])
    · rename_i h
      rw [ih]
      constructor
      · rintro ⟨y, hy, h2⟩
        exact ⟨y, by simp [hy], h2⟩
      · rintro ⟨y, hy, h2, h3⟩
        rcases List.mem_append.1 hy with hy | hy
        · exact ⟨y, hy, h2, h3⟩
        · simp at hy
          subst hy
          rw [h2, Bool.true_and, Bool.not_eq_true', Bool.not_eq_false, List.any_eq_true] at h
          obtain ⟨t', h4, h5⟩ := h
          obtain ⟨z, hz, h6, h7⟩ := ih.1 (by
            have : y.txn = t' := by simpa using h5
            rw [← h3, this]; exact h4)
          exact ⟨z, hz, h6, h7⟩
def seenB (l : List Say) (t : Int) : Bool := l.any fun y => toDone y && decide (y.txn = t)
theorem done_any (l : List Say) (x : Say) : ((doneL l).any fun t => decide (x.txn = t)) = seenB l x.txn := by
  rw [Bool.eq_iff_iff, List.any_eq_true]
  unfold seenB
  rw [List.any_eq_true]
  constructor
  · rintro ⟨t, ht, h⟩
    have e : x.txn = t := by simpa using h
    obtain ⟨y, hy, h1, h2⟩ := (done_mem l t).1 ht
    exact ⟨y, hy, by rw [h1]; simpa using h2.trans e.symm⟩
  · rintro ⟨y, hy, h⟩
    simp only [Bool.and_eq_true, decide_eq_true_eq] at h
    exact ⟨x.txn, (done_mem l _).2 ⟨y, hy, h.1, h.2⟩, by simp⟩
/-- how many, of the first i -/
def cntN (s : Seen) (i : Nat) : Nat := ((doneL (s.says.take i)).filter (hasRec s.recs)).length
theorem cnt_step {s : Seen} {i : Nat} {x : Say} (h : s.says[i]? = some x) : cntN s (i + 1) = cntN s i + (if (toDone x && !seenB (s.says.take i) x.txn && hasRec s.recs x.txn) = true then 1 else 0) := by
  unfold cntN
  rw [done_succ h]
  unfold doneStep
  rw [done_any]
  cases h1 : toDone x && !seenB (s.says.take i) x.txn with
  | false => simp
  | true =>
    rw [if_pos rfl, filt_add, Bool.true_and]
theorem cnt_all (s : Seen) : cntN s s.says.length = orderN s := by
  unfold cntN orderN
  rw [List.take_of_length_le (Nat.le_refl _)]
theorem seen_take {l : List Say} {j : Nat} {y : Say} (h : l[j]? = some y) (t : Int) : seenB (l.take (j + 1)) t = (seenB (l.take j) t || (toDone y && decide (y.txn = t))) := by
  unfold seenB
  exact any_take h
end Go.Proofs.Ytpcmkifgfokdpaa
