/- Locks: the document's list of keys, by rising keys: the plain laws. -/
import Derived.Test.YtfojgghnkjmjhaaDoorLkPlain
namespace Go.Proofs.YtfojgghnkjmjhaaDoor.Locks
open Go.My

def Rise (M : LMap) : Prop := M.Pairwise fun p q => lessK p.1 q.1 = true
theorem Rise.nodup {M : LMap} (h : Rise M) : (M.map (·.1)).Nodup := List.pairwise_map.2 (h.imp fun hl => lessK_ne hl)
def putM : LMap → ByteArray × Int → LMap
  | [], x => [x]
  | p :: r, x => if lessK p.1 x.1 then p :: putM r x else if p.1 = x.1 then x :: r else x :: p :: r
theorem mem_putM {x : ByteArray × Int} : ∀ {M : LMap} {p : ByteArray × Int}, p ∈ putM M x → p = x ∨ p ∈ M
  | [], p, h => by simpa [putM] using h
  | q :: r, p, h => by
    unfold putM at h
    split at h
    · rcases List.mem_cons.1 h with rfl | h
      · exact .inr (by simp)
      · rcases mem_putM h with h | h
        · exact .inl h
        · exact .inr (by simp [h])
    · split at h
      · rcases List.mem_cons.1 h with h | h
        · exact .inl h
        · exact .inr (by simp [h])
      · rcases List.mem_cons.1 h with h | h
        · exact .inl h
        · exact .inr h
theorem rise_putM {x : ByteArray × Int} : ∀ {M : LMap}, Rise M → Rise (putM M x)
  | [], _ => by simp [putM, Rise]
  | q :: r, h => by
    obtain ⟨h1, h2⟩ := List.pairwise_cons.1 h
    unfold putM
    split
    · rename_i hl
      refine List.pairwise_cons.2 ⟨fun p hp => ?_, rise_putM h2⟩
      rcases mem_putM hp with rfl | hp
      · exact hl
      · exact h1 p hp
    · rename_i hl
      split
      · rename_i he
        exact List.pairwise_cons.2 ⟨fun p hp => by rw [← he]; exact h1 p hp, h2⟩
      · rename_i hne
        have hx : lessK x.1 q.1 = true := lessK_tri hl hne
        refine List.pairwise_cons.2 ⟨fun p hp => ?_, h⟩
        rcases List.mem_cons.1 hp with rfl | hp
        · exact hx
        · exact lessK_trans hx (h1 p hp)
theorem aget_none_lt {M : LMap} {k : ByteArray} (h : ∀ p ∈ M, lessK k p.1 = true) : aget M k = none := aget_none.2 fun p hp e => by
  have := h p hp
  rw [e, lessK_irr] at this
  cases this
theorem aget_putM {x : ByteArray × Int} (k : ByteArray) : ∀ {M : LMap}, Rise M → aget (putM M x) k = if x.1 = k then some x.2 else aget M k
  | [], _ => by simp [putM, aget_cons, aget_nil]
  | q :: r, h => by
    obtain ⟨h1, h2⟩ := List.pairwise_cons.1 h
    unfold putM
    split
    · rename_i hl
      rw [aget_cons, aget_putM k h2, aget_cons]
      by_cases e : q.1 = k
      · have : ¬ x.1 = k := fun e2 => lessK_ne hl (e.trans e2.symm)
        simp [e, this]
      · simp [e]
    · rename_i hl
      split
      · rename_i he
        rw [aget_cons, aget_cons]
        by_cases e : x.1 = k
        · simp [e]
        · have : ¬ q.1 = k := fun e2 => e (he ▸ e2)
          simp [e, this]
      · rename_i hne
        rw [aget_cons]
def putsM (M : LMap) (keys : List ByteArray) (who : Int) : LMap := keys.foldl (fun l k => putM l (k, who)) M
theorem putsM_snoc (M : LMap) (f : List ByteArray) (k : ByteArray) (who : Int) : putsM M (f ++ [k]) who = putM (putsM M f who) (k, who) := by unfold putsM; simp
theorem rise_putsM {M : LMap} (h : Rise M) (who : Int) (f : List ByteArray) : Rise (putsM M f who) := by
  induction f using snoc_ind with
  | nil => exact h
  | snoc f x ih => rw [putsM_snoc]; exact rise_putM ih
theorem aget_putsM {M : LMap} (h : Rise M) (who : Int) (k : ByteArray) (f : List ByteArray) : aget (putsM M f who) k = if hasK f k then some who else aget M k := by
  induction f using snoc_ind with
  | nil => simp [putsM, hasK]
  | snoc f x ih =>
    rw [putsM_snoc, aget_putM k (rise_putsM h who f), ih, hasK_snoc]
    by_cases e : x = k
    · subst e; simp
    · simp [e]
theorem perm_of_aget {M L : LMap} (hm : (M.map (·.1)).Nodup) (hl : (L.map (·.1)).Nodup) (h : ∀ k, aget M k = aget L k) : M.Perm L := by
  have nd : ∀ {X : LMap}, (X.map (·.1)).Nodup → X.Nodup := fun hx => (List.pairwise_map.1 hx).imp fun hne e => hne (by rw [e])
  refine (List.perm_ext_iff_of_nodup (nd hm) (nd hl)).2 fun p => ?_
  constructor
  · intro hp
    have := aget_mem hm (k := p.1) (v := p.2) hp
    rw [h] at this
    exact aget_some_mem this
  · intro hp
    have := aget_mem hl (k := p.1) (v := p.2) hp
    rw [← h] at this
    exact aget_some_mem this
theorem aget_perm {M L : LMap} (hm : (M.map (·.1)).Nodup) (h : M.Perm L) (k : ByteArray) : aget M k = aget L k := by
  have hl : (L.map (·.1)).Nodup := (h.map (·.1)).nodup_iff.1 hm
  cases hg : aget L k with
  | none =>
    rw [aget_none] at hg ⊢
    exact fun p hp => hg p (h.mem_iff.1 hp)
  | some v => exact aget_mem hm (h.mem_iff.2 (aget_some_mem hg))
/-- the document's list says what the code's map says -/
structure Doc (M L : LMap) : Prop where
  rise : Rise M
  perm : M.Perm L
theorem doc_nil : Doc [] [] := ⟨List.Pairwise.nil, List.Perm.refl _⟩
theorem Doc.aget {M L : LMap} (h : Doc M L) (k : ByteArray) : aget M k = aget L k := aget_perm h.rise.nodup h.perm k
theorem Doc.len {M L : LMap} (h : Doc M L) : M.length = L.length := h.perm.length_eq
theorem badK_perm {M L : LMap} (h : Doc M L) (who : Int) (k : ByteArray) : badK M who k = badK L who k := by unfold badK; rw [h.aget]
theorem puts_lock {M L : LMap} (h : Doc M L) (hF : Fine L) {who : Int} {keys : List ByteArray} (hb : ∀ k ∈ keys, badK L who k = none) : (putsM M keys who).Perm (putAll L (freshK L keys) who) := by
  refine perm_of_aget (rise_putsM h.rise who keys).nodup (nodup_putAll hF.nodup who _) fun k => ?_
  obtain ⟨_, _, f3⟩ := freshK_spec L keys
  rw [aget_putsM h.rise, aget_putAll, h.aget]
  by_cases hk : k ∈ keys
  · rw [if_pos (hasK_iff.2 hk)]
    rcases badK_held (hb k hk) with h1 | h1
    · rw [if_pos (hasK_iff.2 ((f3 k).2 ⟨hk, h1⟩))]
    · rw [if_neg (fun hf => by rw [((f3 k).1 (hasK_iff.1 hf)).2] at h1; cases h1), h1]
  · rw [if_neg (fun h => hk (hasK_iff.1 h)), if_neg (fun hf => hk ((f3 k).1 (hasK_iff.1 hf)).1)]
theorem puts_len {M L : LMap} (h : Doc M L) (hF : Fine L) {who : Int} {keys : List ByteArray} (hb : ∀ k ∈ keys, badK L who k = none) : (putsM M keys who).length = L.length + (freshK L keys).length := by
  obtain ⟨f1, _, f3⟩ := freshK_spec L keys
  rw [(puts_lock h hF hb).length_eq, length_putAll who _ f1 (fun k hk => ((f3 k).1 hk).2)]
/-- the document's Lock: its list behind it -/
def lockM (M : LMap) (L : LMap) (who : Int) (keys : List ByteArray) : LMap := if lockE L who keys = none then putsM M keys who else M
theorem doc_lock {M L : LMap} (h : Doc M L) (hF : Fine L) (who : Int) (keys : List ByteArray) : Doc (lockM M L who keys) (lockL L who keys) := by
  unfold lockM lockL
  split
  · rename_i he
    exact ⟨rise_putsM h.rise who keys, puts_lock h hF (lockE_none he).2.1⟩
  · exact h
theorem doc_unlock {M L : LMap} (h : Doc M L) (who : Int) : Doc (unlockL M who) (unlockL L who) := ⟨h.rise.sublist List.filter_sublist, h.perm.filter _⟩
theorem sorted_eq {l l' : List ByteArray} (h : l.Pairwise fun a b => lessK a b = true) (h' : l'.Pairwise fun a b => lessK a b = true) (hp : l.Perm l') : l = l' := by
  refine List.Perm.eq_of_pairwise (le := fun a b => lessK a b = true) (fun a b _ _ h1 h2 => ?_) h h' hp
  rw [lessK_asymm h1] at h2
  cases h2
theorem doc_keys {M L : LMap} (h : Doc M L) (hF : Fine L) (who : Int) : (M.filter fun p => p.2 == who).map (·.1) = keysOf L who := by
  refine sorted_eq (List.pairwise_map.2 (h.rise.sublist List.filter_sublist)) (keysOf_lt hF.nodup who) ?_
  unfold keysOf
  exact ((h.perm.filter _).map _).trans (sortB_perm _).symm
end Go.Proofs.YtfojgghnkjmjhaaDoor.Locks
