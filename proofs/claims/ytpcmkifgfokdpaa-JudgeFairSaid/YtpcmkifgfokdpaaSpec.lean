/- A plain map, as plain data: what transactions leave. Nothing here names a program. -/
import Derived.Test.YtpcmkifgfokdpaaGen
namespace Go.My.Model
open Go.My

structure Ent where
  key : ByteArray
  value : ByteArray
  ver : Int
abbrev Wri := ByteArray × ByteArray
structure Tx where
  client : Int
  num : Int
  reads : List (ByteArray × Int)
  writes : List Wri

abbrev St := List (ByteArray × Ent)
def ver (m : St) (k : ByteArray) : Int := ((aget m k).map Ent.ver).getD 0
def nextE (m : St) (x : Wri) : Ent := ⟨x.1, x.2, ver m x.1 + 1⟩
def putE (m : St) (x : Wri) : St := aput m x.1 (nextE m x)
def stateOf (ws : List Wri) : St := ws.foldl putE []
theorem stateOf_snoc (ws : List Wri) (x : Wri) : stateOf (ws ++ [x]) = putE (stateOf ws) x := by simp [stateOf]
/-- the writes of the first i -/
def flat (T : List Tx) (i : Nat) : List Wri := (T.take i).flatMap Tx.writes
theorem flat_succ {T : List Tx} {i : Nat} {t : Tx} (h : T[i]? = some t) : flat T (i + 1) = flat T i ++ t.writes := by
  unfold flat
  rw [List.take_add_one, h]
  simp
def countK (ws : List Wri) (k : ByteArray) : Nat := (ws.filter fun x => decide (x.1 = k)).length
theorem countK_snoc (ws : List Wri) (x : Wri) (k : ByteArray) : countK (ws ++ [x]) k = countK ws k + if x.1 = k then 1 else 0 := by
  unfold countK
  rw [List.filter_append, List.length_append]
  by_cases h : x.1 = k <;> simp [h]
theorem countK_le (ws : List Wri) (k : ByteArray) : countK ws k ≤ ws.length := List.length_filter_le _ _

theorem ver_put (m : St) (x : Wri) (k : ByteArray) : ver (putE m x) k = if x.1 = k then ver m x.1 + 1 else ver m k := by
  unfold putE
  show ((aget (aput m x.1 (nextE m x)) k).map Ent.ver).getD 0 = _
  rw [aget_aput]
  by_cases h : x.1 = k
  · rw [if_pos h, if_pos h]; rfl
  · rw [if_neg h, if_neg h]; rfl
theorem snoc_ind {α : Type} {P : List α → Prop} (h0 : P []) (h1 : ∀ l x, P l → P (l ++ [x])) : ∀ l, P l := by
  intro l
  have : ∀ r : List α, P r.reverse := by
    intro r
    induction r with
    | nil => exact h0
    | cons x r ih => rw [List.reverse_cons]; exact h1 _ _ ih
  have h := this l.reverse
  rwa [List.reverse_reverse] at h
theorem ver_state (ws : List Wri) (k : ByteArray) : ver (stateOf ws) k = (countK ws k : Int) := by
  induction ws using snoc_ind with
  | h0 => rfl
  | h1 ws x ih =>
    rw [stateOf_snoc, ver_put, countK_snoc]
    by_cases h : x.1 = k
    · rw [if_pos h, if_pos h, h, ih]; simp
    · rw [if_neg h, if_neg h, ih]; simp
/-- what the state has of a key -/
structure Good (ws : List Wri) (m : St) : Prop where
  nodup : (m.map (·.1)).Nodup
  key : ∀ p ∈ m, p.2.key = p.1 ∧ p.2.ver = (countK ws p.1 : Int) ∧ ∃ x ∈ ws, x.1 = p.1
  few : m.length ≤ ws.length
  has : ∀ x ∈ ws, aget m x.1 ≠ none
theorem good_state (ws : List Wri) : Good ws (stateOf ws) := by
  induction ws using snoc_ind with
  | h0 => exact ⟨by simp [stateOf], by simp [stateOf], by simp [stateOf], by simp⟩
  | h1 ws x ih =>
    rw [stateOf_snoc]
    have hv := ver_state ws
    generalize stateOf ws = m at ih hv
    refine ⟨nodup_aput _ _ ih.nodup, fun p hp => ?_, ?_, fun y hy => ?_⟩
    · have hg := aget_mem (nodup_aput x.1 (nextE m x) ih.nodup) (k := p.1) (v := p.2) hp
      rw [aget_aput] at hg
      by_cases h : x.1 = p.1
      · rw [if_pos h] at hg
        have he : p.2 = nextE m x := (Option.some.inj hg).symm
        rw [he]
        refine ⟨h, ?_, x, by simp, h⟩
        show ver m x.1 + 1 = _
        rw [hv, countK_snoc, if_pos h, h]
        simp
      · rw [if_neg h] at hg
        obtain ⟨h1, h2, y, hy, hy2⟩ := ih.key p (aget_some_mem hg)
        refine ⟨h1, ?_, y, by simp [hy], hy2⟩
        rw [h2, countK_snoc, if_neg h]
        simp
    · unfold putE
      rw [List.length_append]
      cases hg : aget m x.1 with
      | none => rw [length_aput_none _ hg]; have := ih.few; simp; omega
      | some e => rw [length_aput_some _ (by simp [hg])]; have := ih.few; simp; omega
    · unfold putE
      rw [aget_aput]
      by_cases h : x.1 = y.1
      · rw [if_pos h]; simp
      · rw [if_neg h]
        rcases List.mem_append.1 hy with h2 | h2
        · exact ih.has y h2
        · simp at h2; subst h2; exact absurd rfl h
end Go.My.Model
