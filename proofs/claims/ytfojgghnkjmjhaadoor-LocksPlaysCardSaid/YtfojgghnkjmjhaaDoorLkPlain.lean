/- Locks: the plain laws of a list of keys with who has each. No program is named here. -/
import Derived.Test.YtfojgghnkjmjhaaDoorGen
import Derived.Test.YtfojgghnkjmjhaaDoorStrs
namespace Go.Proofs.YtfojgghnkjmjhaaDoor.Locks
open Go.My

abbrev LMap := List (ByteArray × Int)
/-! ### whose the keys are -/
def keysOf (L : LMap) (who : Int) : List ByteArray := sortB ((L.filter fun p => p.2 == who).map (·.1))
theorem keysOf_len (L : LMap) (who : Int) : (keysOf L who).length = (L.filter fun p => p.2 == who).length := by
  unfold keysOf; rw [length_sortB, List.length_map]
theorem mem_keysOf {L : LMap} (hn : (L.map (·.1)).Nodup) {who : Int} {k : ByteArray} : k ∈ keysOf L who ↔ aget L k = some who := by
  unfold keysOf
  rw [mem_sortB, List.mem_map]
  constructor
  · rintro ⟨⟨k', h⟩, hp, rfl⟩
    obtain ⟨h1, h2⟩ := List.mem_filter.1 hp
    have : h = who := by simpa using h2
    subst this
    exact aget_mem hn h1
  · intro h
    exact ⟨(k, who), List.mem_filter.2 ⟨aget_some_mem h, by simp⟩, rfl⟩
theorem filter_nodup {L : LMap} (hn : (L.map (·.1)).Nodup) (who : Int) : ((L.filter fun p => p.2 == who).map (·.1)).Nodup := nodup_filter _ hn
theorem keysOf_lt {L : LMap} (hn : (L.map (·.1)).Nodup) (who : Int) : (keysOf L who).Pairwise (fun a b => lessK a b = true) := sortB_lt (filter_nodup hn who)
theorem keysOf_nodup {L : LMap} (hn : (L.map (·.1)).Nodup) (who : Int) : (keysOf L who).Nodup := (sortB_perm _).nodup_iff.2 (filter_nodup hn who)
theorem keysOf_eq {L L' : LMap} (hn : (L.map (·.1)).Nodup) (hn' : (L'.map (·.1)).Nodup) {who : Int} (h : ∀ k, aget L k = some who ↔ aget L' k = some who) : keysOf L who = keysOf L' who := by
  unfold keysOf
  refine sortB_congr ((List.perm_ext_iff_of_nodup (filter_nodup hn who) (filter_nodup hn' who)).2 fun k => ?_)
  have := h k
  rw [← mem_keysOf hn, ← mem_keysOf hn'] at this
  unfold keysOf at this
  rw [mem_sortB, mem_sortB] at this
  exact this

/-! ### somebody asks for keys -/
def frS (L : LMap) (acc : List ByteArray) (k : ByteArray) : List ByteArray := if (aget L k).isSome || hasK acc k then acc else acc ++ [k]
def freshK (L : LMap) (keys : List ByteArray) : List ByteArray := keys.foldl (frS L) []
theorem freshK_snoc (L : LMap) (l : List ByteArray) (k : ByteArray) : freshK L (l ++ [k]) = frS L (freshK L l) k := by unfold freshK; simp
theorem freshK_spec (L : LMap) (keys : List ByteArray) : (freshK L keys).Nodup ∧ (freshK L keys).length ≤ keys.length ∧ ∀ k, k ∈ freshK L keys ↔ k ∈ keys ∧ aget L k = none := by
  induction keys using snoc_ind with
  | nil => exact ⟨by simp [freshK], by simp [freshK], fun k => by simp [freshK]⟩
  | snoc l x ih =>
    obtain ⟨h1, h2, h3⟩ := ih
    rw [freshK_snoc]
    unfold frS
    split
    · rename_i h
      refine ⟨h1, by simp; omega, fun k => ?_⟩
      rw [h3, List.mem_append, List.mem_singleton]
      constructor
      · exact fun h4 => ⟨.inl h4.1, h4.2⟩
      · rintro ⟨h4 | rfl, h5⟩
        · exact ⟨h4, h5⟩
        · rw [h5] at h
          simp only [Option.isSome_none, Bool.false_or, hasK_iff] at h
          exact (h3 k).1 h
    · rename_i h
      simp only [Bool.or_eq_true, not_or, hasK_iff] at h
      refine ⟨List.nodup_append.2 ⟨h1, by simp, fun a ha b hb => ?_⟩, by simp; omega, fun k => ?_⟩
      · rintro rfl
        have : a = x := by simpa using hb
        exact h.2 (this ▸ ha)
      · rw [List.mem_append, List.mem_singleton, h3, List.mem_append, List.mem_singleton]
        constructor
        · rintro (h4 | rfl)
          · exact ⟨.inl h4.1, h4.2⟩
          · refine ⟨.inr rfl, ?_⟩
            cases hg : aget L k with
            | none => rfl
            | some v => rw [hg] at h; simp at h
        · rintro ⟨h4 | rfl, h5⟩
          · exact .inl ⟨h4, h5⟩
          · exact .inr rfl
def badK (L : LMap) (who : Int) (k : ByteArray) : Option Int := if 16 < k.size then some 1 else match aget L k with | some h => if h = who then none else some 81 | none => none
def firstBad (L : LMap) (who : Int) : List ByteArray → Nat → Option (Int × Int)
  | [], _ => none
  | k :: r, i => match badK L who k with | some e => some (e, (i : Int)) | none => firstBad L who r (i + 1)
theorem firstBad_at {L : LMap} {who : Int} : ∀ (keys : List ByteArray) (n i : Nat) (k : ByteArray) (e : Int), (∀ j, j < i → ∀ x, keys[j]? = some x → badK L who x = none) → keys[i]? = some k → badK L who k = some e → firstBad L who keys n = some (e, ((n + i : Nat) : Int))
  | [], _, _, _, _, _, h, _ => by simp at h
  | x :: r, n, 0, k, e, _, h, hb => by
    simp at h; subst h
    unfold firstBad; rw [hb]; rfl
  | x :: r, n, i + 1, k, e, h0, h, hb => by
    have hx := h0 0 (by omega) x rfl
    unfold firstBad; rw [hx]
    have := firstBad_at r (n + 1) i k e (fun j hj y hy => h0 (j + 1) (by omega) y (by simpa using hy)) (by simpa using h) hb
    simp only [this]
    congr 3
    omega
theorem firstBad_none {L : LMap} {who : Int} : ∀ (keys : List ByteArray) (n : Nat), (∀ x ∈ keys, badK L who x = none) → firstBad L who keys n = none
  | [], _, _ => rfl
  | x :: r, n, h => by
    unfold firstBad
    rw [h x (by simp)]
    exact firstBad_none r (n + 1) fun y hy => h y (by simp [hy])
theorem firstBad_all {L : LMap} {who : Int} : ∀ (keys : List ByteArray) (n : Nat), firstBad L who keys n = none → ∀ x ∈ keys, badK L who x = none
  | [], _, _, x, hx => by simp at hx
  | y :: r, n, h, x, hx => by
    unfold firstBad at h
    cases hb : badK L who y with
    | some e => rw [hb] at h; cases h
    | none =>
      rw [hb] at h
      rcases List.mem_cons.1 hx with rfl | hx
      · exact hb
      · exact firstBad_all r (n + 1) h x hx
/-- the error's number and place, or none -/
def lockE (L : LMap) (who : Int) (keys : List ByteArray) : Option (Int × Int) :=
  if who < 0 then some (1, -1) else
  match firstBad L who keys 0 with
  | some p => some p
  | none => if 128 < L.length + (freshK L keys).length then some (71, (L.length : Int)) else none
def putAll (L : LMap) (f : List ByteArray) (who : Int) : LMap := f.foldl (fun l k => aput l k who) L
theorem putAll_snoc (L : LMap) (f : List ByteArray) (k : ByteArray) (who : Int) : putAll L (f ++ [k]) who = aput (putAll L f who) k who := by unfold putAll; simp
def lockL (L : LMap) (who : Int) (keys : List ByteArray) : LMap := if lockE L who keys = none then putAll L (freshK L keys) who else L
theorem aget_putAll (L : LMap) (who : Int) (k : ByteArray) (f : List ByteArray) : aget (putAll L f who) k = if hasK f k then some who else aget L k := by
  induction f using snoc_ind with
  | nil => simp [putAll, hasK]
  | snoc f x ih =>
    rw [putAll_snoc, aget_aput, ih, hasK_snoc]
    by_cases h : x = k
    · subst h; simp
    · simp [h]
theorem nodup_putAll {L : LMap} (hn : (L.map (·.1)).Nodup) (who : Int) (f : List ByteArray) : ((putAll L f who).map (·.1)).Nodup := by
  induction f using snoc_ind with
  | nil => exact hn
  | snoc f x ih => rw [putAll_snoc]; exact nodup_aput _ _ ih
theorem length_putAll {L : LMap} (who : Int) (f : List ByteArray) (hf : f.Nodup) (hg : ∀ k ∈ f, aget L k = none) : (putAll L f who).length = L.length + f.length := by
  induction f using snoc_ind with
  | nil => rfl
  | snoc f x ih =>
    obtain ⟨h1, _, h3⟩ := List.nodup_append.1 hf
    rw [putAll_snoc, length_aput_none, ih h1 (fun k hk => hg k (by simp [hk]))]
    · simp; omega
    · rw [aget_putAll, if_neg (fun hx => h3 x (hasK_iff.1 hx) x (by simp) rfl)]
      exact hg x (by simp)
theorem mem_putAll {L : LMap} {who : Int} {f : List ByteArray} {p : ByteArray × Int} (h : p ∈ putAll L f who) : p ∈ L ∨ p.2 = who := by
  induction f using snoc_ind with
  | nil => exact .inl h
  | snoc f x ih =>
    rw [putAll_snoc] at h
    rcases mem_aput h with rfl | h
    · exact .inr rfl
    · exact ih h

structure Fine (L : LMap) : Prop where
  nodup : (L.map (·.1)).Nodup
  small : L.length ≤ 128
  who : ∀ p ∈ L, 0 ≤ p.2
  size : ∀ p ∈ L, p.1.size ≤ 16
theorem fine_nil : Fine [] := ⟨by simp, by simp, by simp, by simp⟩
theorem lockE_none {L : LMap} {who : Int} {keys : List ByteArray} (h : lockE L who keys = none) : 0 ≤ who ∧ (∀ k ∈ keys, badK L who k = none) ∧ L.length + (freshK L keys).length ≤ 128 := by
  unfold lockE at h
  split at h
  · cases h
  · rename_i h1
    split at h
    · cases h
    · rename_i h2
      split at h
      · cases h
      · exact ⟨by omega, firstBad_all keys 0 h2, by omega⟩
theorem mem_putAll_key {L : LMap} {who : Int} {f : List ByteArray} {p : ByteArray × Int} (h : p ∈ putAll L f who) : p ∈ L ∨ p.1 ∈ f := by
  induction f using snoc_ind with
  | nil => exact .inl h
  | snoc f x ih =>
    rw [putAll_snoc] at h
    rcases mem_aput h with rfl | h
    · exact .inr (by simp)
    · rcases ih h with h | h
      · exact .inl h
      · exact .inr (by simp [h])
theorem badK_size {L : LMap} {who : Int} {k : ByteArray} (h : badK L who k = none) : k.size ≤ 16 := by
  unfold badK at h
  split at h
  · cases h
  · omega
theorem badK_held {L : LMap} {who : Int} {k : ByteArray} (h : badK L who k = none) : aget L k = none ∨ aget L k = some who := by
  unfold badK at h
  split at h
  · cases h
  · split at h
    · split at h
      · rename_i h1 h2; subst h2; exact .inr h1
      · cases h
    · rename_i h1; exact .inl h1
theorem fine_lock {L : LMap} (h : Fine L) (who : Int) (keys : List ByteArray) : Fine (lockL L who keys) := by
  unfold lockL
  split
  · rename_i he
    obtain ⟨h1, h2, h3⟩ := lockE_none he
    obtain ⟨f1, f2, f3⟩ := freshK_spec L keys
    refine ⟨nodup_putAll h.nodup who _, ?_, fun p hp => ?_, fun p hp => ?_⟩
    · rw [length_putAll who _ f1 (fun k hk => ((f3 k).1 hk).2)]; exact h3
    · rcases mem_putAll hp with hp | hp
      · exact h.who p hp
      · rw [hp]; exact h1
    · rcases mem_putAll_key hp with hp | hp
      · exact h.size p hp
      · exact badK_size (h2 _ ((f3 _).1 hp).1)
  · exact h
theorem aget_lock {L : LMap} {who : Int} {keys : List ByteArray} (he : lockE L who keys = none) (k : ByteArray) : aget (lockL L who keys) k = if hasK keys k then some who else aget L k := by
  obtain ⟨_, h2, _⟩ := lockE_none he
  obtain ⟨_, _, f3⟩ := freshK_spec L keys
  unfold lockL
  rw [if_pos he, aget_putAll]
  by_cases hk : k ∈ keys
  · rw [if_pos (hasK_iff.2 hk)]
    rcases badK_held (h2 k hk) with h | h
    · rw [if_pos (hasK_iff.2 ((f3 k).2 ⟨hk, h⟩))]
    · rw [if_neg (fun hf => by rw [((f3 k).1 (hasK_iff.1 hf)).2] at h; cases h), h]
  · rw [if_neg (fun h => hk (hasK_iff.1 h)), if_neg (fun hf => hk ((f3 k).1 (hasK_iff.1 hf)).1)]
theorem lock_mem {L : LMap} {who : Int} {keys : List ByteArray} {p : ByteArray × Int} (h : p ∈ lockL L who keys) : p ∈ L ∨ p.2 = who := by
  unfold lockL at h
  split at h
  · exact mem_putAll h
  · exact .inl h

/-! ### somebody leaves all -/
def unlockL (L : LMap) (who : Int) : LMap := L.filter fun p => !(p.2 == who)
def delAll (L : LMap) (f : List ByteArray) : LMap := L.filter fun p => !hasK f p.1
theorem delAll_nil (L : LMap) : delAll L [] = L := List.filter_eq_self.2 fun _ _ => rfl
theorem delAll_snoc (L : LMap) (f : List ByteArray) (k : ByteArray) : delAll L (f ++ [k]) = adel (delAll L f) k := by
  unfold delAll adel
  rw [List.filter_filter]
  refine List.filter_congr fun p _ => ?_
  unfold hasK
  rw [List.any_append]
  by_cases h : k = p.1
  · subst h; simp
  · have : ¬ p.1 = k := fun e => h e.symm
    simp [h, this]
theorem delAll_keys {L : LMap} (hn : (L.map (·.1)).Nodup) (who : Int) : delAll L (keysOf L who) = unlockL L who := by
  unfold delAll unlockL
  refine List.filter_congr fun p hp => ?_
  have h1 := mem_keysOf hn (who := who) (k := p.1)
  have h2 : aget L p.1 = some p.2 := aget_mem hn hp
  rw [h2] at h1
  have h3 : hasK (keysOf L who) p.1 = (p.2 == who) := by
    rw [Bool.eq_iff_iff, hasK_iff, h1]
    simp
  rw [h3]
theorem aget_unlock {L : LMap} (hn : (L.map (·.1)).Nodup) (who : Int) (k : ByteArray) : aget (unlockL L who) k = if aget L k = some who then none else aget L k := by
  rw [← delAll_keys hn]
  unfold delAll
  have := aget_filter (l := L) (fun x => !hasK (keysOf L who) x) k
  rw [this]
  by_cases h : aget L k = some who
  · have hm : hasK (keysOf L who) k = true := hasK_iff.2 ((mem_keysOf hn).2 h)
    rw [if_pos h, hm]; rfl
  · have hm : hasK (keysOf L who) k = false := hasK_not.2 fun hc => h ((mem_keysOf hn).1 hc)
    rw [if_neg h, hm]; rfl
theorem fine_unlock {L : LMap} (h : Fine L) (who : Int) : Fine (unlockL L who) :=
  ⟨nodup_filter _ h.nodup, Nat.le_trans (List.length_filter_le _ _) h.small, fun p hp => h.who p (List.mem_filter.1 hp).1, fun p hp => h.size p (List.mem_filter.1 hp).1⟩
theorem unlock_mem {L : LMap} {who : Int} {p : ByteArray × Int} (h : p ∈ unlockL L who) : p ∈ L := (List.mem_filter.1 h).1
theorem unlock_len {L : LMap} (who : Int) : (unlockL L who).length + (keysOf L who).length = L.length := by
  rw [keysOf_len]
  unfold unlockL
  induction L with
  | nil => rfl
  | cons p r ih =>
    simp only [List.filter_cons]
    by_cases h : p.2 = who
    · simp [h]; omega
    · simp [h]; omega

/-! ### the laws -/
theorem keysOf_lock_other {L : LMap} (h : Fine L) {who o : Int} (hne : o ≠ who) (keys : List ByteArray) : keysOf (lockL L who keys) o = keysOf L o := by
  by_cases he : lockE L who keys = none
  · refine keysOf_eq (fine_lock h who keys).nodup h.nodup fun k => ?_
    rw [aget_lock he]
    by_cases hk : k ∈ keys
    · rw [if_pos (hasK_iff.2 hk)]
      rcases badK_held ((lockE_none he).2.1 k hk) with h1 | h1
      · rw [h1]; simp; exact fun e => hne e.symm
      · rw [h1]
    · rw [if_neg (fun h => hk (hasK_iff.1 h))]
  · unfold lockL; rw [if_neg he]
theorem keysOf_unlock_other {L : LMap} (h : Fine L) {who o : Int} (hne : o ≠ who) : keysOf (unlockL L who) o = keysOf L o := by
  refine keysOf_eq (fine_unlock h who).nodup h.nodup fun k => ?_
  rw [aget_unlock h.nodup]
  by_cases hk : aget L k = some who
  · rw [if_pos hk, hk]; simp; exact fun e => hne e.symm
  · rw [if_neg hk]
theorem keysOf_unlock_own {L : LMap} (h : Fine L) (who : Int) : keysOf (unlockL L who) who = [] := by
  refine List.eq_nil_iff_forall_not_mem.2 fun k hk => ?_
  have := (mem_keysOf (fine_unlock h who).nodup).1 hk
  rw [aget_unlock h.nodup] at this
  split at this
  · cases this
  · rename_i h1; exact h1 this
theorem lock_again {L : LMap} (h : Fine L) {who : Int} {keys : List ByteArray} (he : lockE L who keys = none) : lockE (lockL L who keys) who keys = none ∧ lockL (lockL L who keys) who keys = lockL L who keys := by
  obtain ⟨h1, h2, _⟩ := lockE_none he
  have hb : ∀ k ∈ keys, badK (lockL L who keys) who k = none := fun k hk => by
    unfold badK
    rw [aget_lock he, if_pos (hasK_iff.2 hk), if_neg (by have := badK_size (h2 k hk); omega)]
    simp
  have hf : freshK (lockL L who keys) keys = [] := by
    obtain ⟨_, _, f3⟩ := freshK_spec (lockL L who keys) keys
    refine List.eq_nil_iff_forall_not_mem.2 fun k hk => ?_
    obtain ⟨g1, g2⟩ := (f3 k).1 hk
    rw [aget_lock he, if_pos (hasK_iff.2 g1)] at g2
    cases g2
  have e : lockE (lockL L who keys) who keys = none := by
    unfold lockE
    rw [if_neg (by omega), firstBad_none _ _ hb, hf]
    simp only [List.length_nil, Nat.add_zero]
    rw [if_neg (by have := (fine_lock h who keys).small; omega)]
  refine ⟨e, ?_⟩
  have e2 : lockL (lockL L who keys) who keys = putAll (lockL L who keys) (freshK (lockL L who keys) keys) who := if_pos e
  rw [e2, hf]
  rfl
theorem lock_free {L : LMap} (h : Fine L) {who other : Int} {keys : List ByteArray} (he : lockE L who keys = none) :
    (0 ≤ other → lockE (unlockL (lockL L who keys) who) other keys = none) ∧ (lockL (unlockL (lockL L who keys) who) other keys).length ≤ (lockL L who keys).length := by
  obtain ⟨h1, h2, _⟩ := lockE_none he
  have hF := fine_lock h who keys
  have hg : ∀ k ∈ keys, aget (unlockL (lockL L who keys) who) k = none := fun k hk => by
    rw [aget_unlock hF.nodup, aget_lock he, if_pos (hasK_iff.2 hk)]; simp
  have hb : ∀ k ∈ keys, badK (unlockL (lockL L who keys) who) other k = none := fun k hk => by
    unfold badK
    rw [hg k hk, if_neg (by have := badK_size (h2 k hk); omega)]
  obtain ⟨f1, f2, f3⟩ := freshK_spec (unlockL (lockL L who keys) who) keys
  have hsub : (freshK (unlockL (lockL L who keys) who) keys).length ≤ (keysOf (lockL L who keys) who).length := by
    refine nodup_len f1 fun k hk => ?_
    rw [mem_keysOf hF.nodup, aget_lock he, if_pos (hasK_iff.2 ((f3 k).1 hk).1)]
  have hlen := unlock_len (L := lockL L who keys) who
  have hs := hF.small
  have e : 0 ≤ other → lockE (unlockL (lockL L who keys) who) other keys = none := fun ho => by
    unfold lockE
    rw [if_neg (by omega), firstBad_none _ _ hb]
    simp only []
    rw [if_neg (by omega)]
  refine ⟨e, ?_⟩
  generalize lockL L who keys = M at *
  generalize unlockL M who = G at *
  have e3 : lockL G other keys = putAll G (freshK G keys) other ∨ lockL G other keys = G := by
    unfold lockL
    split
    · exact .inl rfl
    · exact .inr rfl
  rcases e3 with e3 | e3
  · rw [e3, length_putAll other _ f1 (fun k hk => ((f3 k).1 hk).2)]
    omega
  · rw [e3]
    omega
theorem lockE_neg {L : LMap} {who : Int} {keys : List ByteArray} (h : who < 0) : lockE L who keys = some (1, -1) := by unfold lockE; rw [if_pos h]

/-! ### how many keys the first askers have together -/
def countK (L : LMap) (whos : List Int) : Nat := (L.filter fun p => whos.contains p.2).length
theorem countK_nil (L : LMap) : countK L [] = 0 := by unfold countK; rw [List.length_eq_zero_iff, List.filter_eq_nil_iff]; simp
theorem countK_again {L : LMap} {whos : List Int} {who : Int} (h : who ∈ whos) : countK L (whos ++ [who]) = countK L whos := by
  unfold countK
  congr 1
  refine List.filter_congr fun p _ => ?_
  rw [Bool.eq_iff_iff]
  simp only [List.contains_iff_mem, List.mem_append, List.mem_singleton]
  constructor
  · rintro (h1 | h1)
    · exact h1
    · rw [h1]; exact h
  · exact .inl
theorem countK_new {L : LMap} {whos : List Int} {who : Int} (h : who ∉ whos) : countK L (whos ++ [who]) = countK L whos + (keysOf L who).length := by
  rw [keysOf_len]
  unfold countK
  induction L with
  | nil => rfl
  | cons p r ih =>
    simp only [List.filter_cons]
    by_cases h1 : p.2 ∈ whos
    · have h2 : ¬ p.2 = who := fun e => h (e ▸ h1)
      simp only [List.contains_iff_mem, List.mem_append, List.mem_singleton, h1, h2, or_false, if_true, beq_iff_eq, if_false, List.length_cons] at ih ⊢
      omega
    · by_cases h2 : p.2 = who
      · simp only [List.contains_iff_mem, List.mem_append, List.mem_singleton, h2, or_true, if_true, beq_iff_eq, List.length_cons, h, if_false] at ih ⊢
        omega
      · simp only [List.contains_iff_mem, List.mem_append, List.mem_singleton, h1, h2, or_false, beq_iff_eq, if_false] at ih ⊢
        omega
theorem countK_all {L : LMap} {whos : List Int} (h : ∀ p ∈ L, p.2 ∈ whos) : countK L whos = L.length := by
  unfold countK
  rw [List.filter_eq_self.2]
  intro p hp
  simpa using h p hp
end Go.Proofs.YtfojgghnkjmjhaaDoor.Locks
