/- The model: plain laws of what is left. -/
import Derived.Test.YtacdnpacpndekaaArgs
namespace Go.Proofs.Ytacdnpacpndekaa
open Go.RowKit Go.My Go.My.Model Go.Deep
def lastV (ws : List Wri) (k : ByteArray) : ByteArray := ws.foldl (fun a x => if x.1 = k then x.2 else a) ByteArray.empty
theorem lastV_snoc (ws : List Wri) (x : Wri) (k : ByteArray) : lastV (ws ++ [x]) k = if x.1 = k then x.2 else lastV ws k := by simp [lastV]
theorem aget_state (ws : List Wri) (k : ByteArray) : aget (stateOf ws) k = if countK ws k = 0 then none else some ⟨k, lastV ws k, (countK ws k : Int)⟩ := by
  induction ws using snoc_ind with
  | h0 => rfl
  | h1 ws x ih =>
    rw [stateOf_snoc]
    unfold putE
    rw [aget_aput, countK_snoc, lastV_snoc]
    by_cases h : x.1 = k
    · rw [if_pos h, if_pos h, if_pos h]
      have hv : ver (stateOf ws) x.1 = (countK ws k : Int) := by rw [ver_state, h]
      unfold nextE
      rw [hv, h]
      simp
    · rw [if_neg h, if_neg h, if_neg h, ih]
      simp
theorem sortS_mem {V : Type} {m : List (ByteArray × V)} {s : ByteArray} : s ∈ sortS m ↔ ∃ p ∈ m, p.1 = s := by
  unfold sortS
  simp only [List.mem_map, List.mem_mergeSort]
  constructor
  · rintro ⟨b, ⟨p, hp, rfl⟩, rfl⟩
    exact ⟨p, hp, rfl⟩
  · rintro ⟨p, hp, rfl⟩
    exact ⟨_, ⟨p, hp, rfl⟩, rfl⟩
theorem mem_state {ws : List Wri} {s : ByteArray} : s ∈ sortS (stateOf ws) ↔ countK ws s ≠ 0 := by
  rw [sortS_mem]
  constructor
  · rintro ⟨p, hp, rfl⟩ h0
    have h1 := aget_mem (good_state ws).nodup (k := p.1) (v := p.2) hp
    rw [aget_state, if_pos h0] at h1
    cases h1
  · intro h
    have h1 := aget_state ws s
    rw [if_neg h] at h1
    exact ⟨_, aget_some_mem h1, rfl⟩
def entOf (ws : List Wri) (k : ByteArray) : Ent := ⟨k, lastV ws k, (countK ws k : Int)⟩
theorem runL_eq (ws : List Wri) : runL (stateOf ws) = (sortS (stateOf ws)).map (entOf ws) := by
  unfold runL
  refine List.map_congr_left fun s hs => ?_
  rw [aget_state, if_neg (mem_state.1 hs)]
  rfl
theorem run_mem {ws : List Wri} {e : Ent} : e ∈ runL (stateOf ws) ↔ countK ws e.key ≠ 0 ∧ e = entOf ws e.key := by
  rw [runL_eq, List.mem_map]
  constructor
  · rintro ⟨s, hs, rfl⟩
    exact ⟨mem_state.1 hs, rfl⟩
  · rintro ⟨h, h2⟩
    exact ⟨_, mem_state.2 h, h2.symm⟩
theorem run_few (ws : List Wri) : (runL (stateOf ws)).length ≤ ws.length := by
  rw [runL_len]
  exact (good_state ws).few
theorem flat_few : ∀ {T : List Tx}, (∀ t ∈ T, t.reads.length + t.writes.length ≤ 40) → (T.flatMap Tx.writes).length ≤ 40 * T.length
  | [], _ => by simp
  | t :: T, h => by
    have h1 := h t (by simp)
    have h2 := flat_few (T := T) fun t ht => h t (by simp [ht])
    simp only [List.flatMap_cons, List.length_append, List.length_cons]
    omega
theorem small_flat {T : List Tx} (h : Small T) (i : Nat) : (flat T i).length ≤ 1600 := by
  have h1 := flat_few (T := T.take i) fun t ht => h.2 t (List.mem_of_mem_take ht)
  have h2 := h.1
  have h3 : (T.take i).length ≤ T.length := by rw [List.length_take]; omega
  unfold flat
  omega
end Go.Proofs.Ytacdnpacpndekaa
