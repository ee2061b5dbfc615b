/- A store, as plain data: what laying in, putting and dropping leave. -/
import Derived.Test.YtaifmfnmgnmgbaaGreatDoorPut
namespace Go.Proofs.YtaifmfnmgnmgbaaGreatDoor
open Go.RowKit Go.My
theorem get_nil (k : ByteArray) : getE [] k = none := rfl
theorem get_cons (a : Ent) (L : List Ent) (k : ByteArray) : getE (a :: L) k = if a.key = k then some a else getE L k := by
  unfold getE
  by_cases h : a.key = k <;> simp [h]
theorem has_cons (a : Ent) (L : List Ent) (k : ByteArray) : hasK (a :: L) k = (decide (a.key = k) || hasK L k) := by simp [hasK]
theorem has_false {L : List Ent} {k : ByteArray} (h : ∀ e ∈ L, e.key ≠ k) : hasK L k = false := by
  unfold hasK
  rw [List.any_eq_false]
  intro e he
  simpa using h e he
theorem has_true {L : List Ent} {k : ByteArray} (h : hasK L k = true) : ∃ e ∈ L, e.key = k := by
  unfold hasK at h
  simpa using h
theorem get_no {L : List Ent} {k : ByteArray} (h : hasK L k = false) : getE L k = none := by
  rw [← get_has] at h
  simpa using h
theorem ne_of_less {a b : ByteArray} (h : lessK a b = true) : b ≠ a := by
  rintro rfl
  rw [lessK_irr] at h
  cases h
theorem join_mem : ∀ (L M : List Ent) {x : Ent}, x ∈ joinE L M → x ∈ L ∨ x ∈ M
  | [], M, x, h => by rw [joinE] at h; exact .inr h
  | a :: L, [], x, h => by rw [joinE] at h; exact .inl h
  | a :: L, b :: M, x, h => by
    have h1 := @join_mem L (b :: M) x
    have h2 := @join_mem L M x
    have h3 := @join_mem (a :: L) M x
    rw [joinE] at h
    split at h
    · rcases List.mem_cons.1 h with rfl | h
      · simp
      · rcases h1 h with h | h
        · exact .inl (List.mem_cons_of_mem _ h)
        · exact .inr h
    · split at h
      · rcases List.mem_cons.1 h with rfl | h
        · simp
        · rcases h2 h with h | h
          · exact .inl (List.mem_cons_of_mem _ h)
          · exact .inr (List.mem_cons_of_mem _ h)
      · rcases List.mem_cons.1 h with rfl | h
        · simp
        · rcases h3 h with h | h
          · exact .inl h
          · exact .inr (List.mem_cons_of_mem _ h)
termination_by L M => L.length + M.length
theorem join_up : ∀ (L M : List Ent), Up L → Up M → Up (joinE L M)
  | [], M, _, hm => by rw [joinE]; exact hm
  | a :: L, [], hl, _ => by rw [joinE]; exact hl
  | a :: L, b :: M, hl, hm => by
    have hl' := List.pairwise_cons.1 hl
    have hm' := List.pairwise_cons.1 hm
    have h1 := join_up L (b :: M) hl'.2 hm
    have h2 := join_up L M hl'.2 hm'.2
    have h3 := join_up (a :: L) M hl hm'.2
    rw [joinE]
    split
    · rename_i h
      refine List.pairwise_cons.2 ⟨fun x hx => ?_, h1⟩
      rcases join_mem _ _ hx with hx | hx
      · exact hl'.1 x hx
      · rcases List.mem_cons.1 hx with rfl | hx
        · exact h
        · exact lessK_trans h (hm'.1 x hx)
    · split
      · rename_i h
        refine List.pairwise_cons.2 ⟨fun x hx => ?_, h2⟩
        rcases join_mem _ _ hx with hx | hx
        · rw [← h]; exact hl'.1 x hx
        · exact hm'.1 x hx
      · rename_i h h'
        have hba := lessK_tri h h'
        refine List.pairwise_cons.2 ⟨fun x hx => ?_, h3⟩
        rcases join_mem _ _ hx with hx | hx
        · rcases List.mem_cons.1 hx with rfl | hx
          · exact hba
          · exact lessK_trans hba (hl'.1 x hx)
        · exact hm'.1 x hx
termination_by L M => L.length + M.length
theorem join_get : ∀ (L M : List Ent), Up L → Up M → ∀ k, getE (joinE L M) k = if hasK M k = true then getE M k else getE L k
  | [], M, _, _, k => by
    rw [joinE]
    split
    · rfl
    · rename_i h
      rw [get_no (by simpa using h), get_nil]
  | a :: L, [], _, _, k => by rw [joinE]; simp [hasK]
  | a :: L, b :: M, hl, hm, k => by
    have hl' := List.pairwise_cons.1 hl
    have hm' := List.pairwise_cons.1 hm
    have h1 := join_get L (b :: M) hl'.2 hm k
    have h2 := join_get L M hl'.2 hm'.2 k
    have h3 := join_get (a :: L) M hl hm'.2 k
    rw [joinE]
    split
    · rename_i h
      rw [get_cons, h1]
      by_cases hk : a.key = k
      · subst hk
        have : hasK (b :: M) a.key = false := has_false fun e he => by
          rcases List.mem_cons.1 he with rfl | he
          · exact ne_of_less h
          · exact ne_of_less (lessK_trans h (hm'.1 e he))
        rw [if_pos rfl, this, if_neg (by simp), get_cons, if_pos rfl]
      · rw [if_neg hk, get_cons a, if_neg hk]
    · split
      · rename_i h
        rw [get_cons, h2, has_cons, get_cons b, get_cons a, h]
        by_cases hk : b.key = k
        · simp [hk]
        · simp [hk]
      · rw [get_cons, h3, has_cons, get_cons b]
        by_cases hk : b.key = k <;> simp [hk]
termination_by L M => L.length + M.length
theorem join_count : ∀ (L M : List Ent), Up L → Up M → (joinE L M).length = M.length + (L.filter fun e => !hasK M e.key).length
  | [], M, _, _ => by rw [joinE]; simp
  | a :: L, [], _, _ => by
    rw [joinE, List.filter_eq_self.2 fun e _ => by simp [hasK]]
    simp
  | a :: L, b :: M, hl, hm => by
    have hl' := List.pairwise_cons.1 hl
    have hm' := List.pairwise_cons.1 hm
    have h1 := join_count L (b :: M) hl'.2 hm
    have h2 := join_count L M hl'.2 hm'.2
    have h3 := join_count (a :: L) M hl hm'.2
    rw [joinE]
    split
    · rename_i h
      have : hasK (b :: M) a.key = false := has_false fun e he => by
        rcases List.mem_cons.1 he with rfl | he
        · exact ne_of_less h
        · exact ne_of_less (lessK_trans h (hm'.1 e he))
      rw [List.length_cons, h1, List.filter_cons_of_pos (by simp [this])]
      simp only [List.length_cons]
      omega
    · split
      · rename_i h
        have hy : hasK (b :: M) a.key = true := by rw [has_cons, h]; simp
        rw [List.length_cons, h2, List.filter_cons_of_neg (by simp [hy]), List.length_cons]
        have : (L.filter fun e => !hasK (b :: M) e.key) = L.filter fun e => !hasK M e.key := List.filter_congr fun e he => by
          have : ¬ b.key = e.key := fun q => ne_of_less (hl'.1 e he) (by rw [h]; exact q.symm)
          rw [has_cons]
          simp [this]
        rw [this]
        omega
      · rename_i h h'
        have hba := lessK_tri h h'
        rw [List.length_cons, h3, List.length_cons]
        have : ((a :: L).filter fun e => !hasK (b :: M) e.key) = (a :: L).filter fun e => !hasK M e.key := List.filter_congr fun e he => by
          have : ¬ b.key = e.key := by
            rcases List.mem_cons.1 he with rfl | he
            · exact fun q => h' q.symm
            · exact fun q => ne_of_less (lessK_trans hba (hl'.1 e he)) q.symm
          rw [has_cons]
          simp [this]
        rw [this]
        omega
termination_by L M => L.length + M.length
theorem filter_one : ∀ {L : List Ent} (k : ByteArray), Up L → (L.filter fun e => !decide (k = e.key)).length = if hasK L k = true then L.length - 1 else L.length
  | [], _, _ => rfl
  | a :: L, k, hu => by
    have hu' := List.pairwise_cons.1 hu
    have ih := filter_one k hu'.2
    rw [has_cons]
    by_cases h : a.key = k
    · subst h
      have : hasK L a.key = false := has_false fun e he => ne_of_less (hu'.1 e he)
      rw [List.filter_cons_of_neg (by simp), ih, this]
      simp
    · have h' : ¬ k = a.key := fun e => h e.symm
      rw [List.filter_cons_of_pos (by simp [h']), List.length_cons, ih]
      simp only [h, decide_false, Bool.false_or, List.length_cons]
      split
      · rename_i hh
        obtain ⟨e, he, _⟩ := has_true hh
        have := List.length_pos_iff.2 (List.ne_nil_of_mem he)
        omega
      · rfl
/-- how many there are behind one key is put -/
theorem put_count {L : List Ent} (hu : Up L) (e : Ent) : (joinE L [e]).length = if hasK L e.key = true then L.length else L.length + 1 := by
  rw [join_count L [e] hu (List.pairwise_singleton _ _)]
  have : (L.filter fun x => !hasK [e] x.key) = L.filter fun x => !decide (e.key = x.key) := List.filter_congr fun x _ => by simp [hasK]
  rw [this, filter_one e.key hu]
  split
  · rename_i hh
    obtain ⟨x, hx, _⟩ := has_true hh
    have := List.length_pos_iff.2 (List.ne_nil_of_mem hx)
    simp
    omega
  · simp; omega
theorem put_get {L : List Ent} (hu : Up L) (e : Ent) (k : ByteArray) : getE (joinE L [e]) k = if e.key = k then some e else getE L k := by
  rw [join_get L [e] hu (List.pairwise_singleton _ _) k, get_cons, get_nil]
  by_cases h : e.key = k <;> simp [hasK, h]
theorem join_nil (L : List Ent) : joinE L [] = L := by cases L <;> simp [joinE]
theorem nil_join (L : List Ent) : joinE [] L = L := by simp [joinE]
/-- what was taken out, laid in again -/
theorem join_parts (p : Ent → Bool) : ∀ {L : List Ent}, Up L → joinE (L.filter fun e => !p e) (L.filter p) = L
  | [], _ => by simp [joinE]
  | a :: L, hu => by
    have hu' := List.pairwise_cons.1 hu
    have ih := join_parts p hu'.2
    cases hp : p a with
    | false =>
      rw [List.filter_cons_of_pos (by simp [hp]), List.filter_cons_of_neg (by simp [hp])]
      cases hm : L.filter p with
      | nil => rw [hm, join_nil] at ih; rw [join_nil, ih]
      | cons b M =>
        have hb : b ∈ L := (List.mem_filter.1 (show b ∈ L.filter p by rw [hm]; simp)).1
        rw [joinE, if_pos (hu'.1 b hb), ← hm, ih]
    | true =>
      rw [List.filter_cons_of_neg (by simp [hp]), List.filter_cons_of_pos (by simp [hp])]
      cases hm : L.filter fun e => !p e with
      | nil => rw [hm, nil_join] at ih; rw [nil_join, ih]
      | cons b M =>
        have hb : b ∈ L := (List.mem_filter.1 (show b ∈ L.filter fun e => !p e by rw [hm]; simp)).1
        have h := hu'.1 b hb
        rw [joinE, if_neg (by rw [lessK_asymm h]; simp), if_neg (ne_of_less h), ← hm, ih]
theorem parts_len (p : Ent → Bool) : ∀ (L : List Ent), (L.filter fun e => !p e).length + (L.filter p).length = L.length
  | [] => rfl
  | a :: L => by
    have ih := parts_len p L
    cases hp : p a with
    | false => rw [List.filter_cons_of_pos (by simp [hp]), List.filter_cons_of_neg (by simp [hp])]; simp only [List.length_cons]; omega
    | true => rw [List.filter_cons_of_neg (by simp [hp]), List.filter_cons_of_pos (by simp [hp])]; simp only [List.length_cons]; omega
theorem ok_filter {L : List Ent} (h : OfOK L) (p : Ent → Bool) : OfOK (L.filter p) := ⟨fun e he => h.fit e (List.mem_filter.1 he).1, h.up.sublist List.filter_sublist, Nat.le_trans (List.length_filter_le _ _) h.few⟩
/-- the range of all -/
theorem less_empty (k : ByteArray) : lessK k ⟨#[]⟩ = false := by
  cases h : lessK k ⟨#[]⟩ with
  | false => rfl
  | true =>
    rw [lessK_lt] at h
    have e : (⟨#[]⟩ : ByteArray).toList = [] := by rw [Lib.toList_data]
    rw [e] at h
    exact absurd h (List.not_lt_nil _)
theorem ok_join {L M : List Ent} (hl : OfOK L) (hm : OfOK M) (h : (joinE L M).length ≤ 128) : OfOK (joinE L M) :=
  ⟨fun e he => by
    rcases join_mem _ _ he with he | he
    · exact hl.fit e he
    · exact hm.fit e he, join_up _ _ hl.up hm.up, h⟩
theorem fit_pos {e : Ent} (h : fitE e = true) : 0 < e.ver := by
  unfold fitE at h
  simp only [Bool.and_eq_true, decide_eq_true_eq] at h
  exact h.2
theorem ok_pos {L : List Ent} (h : OfOK L) : ∀ e ∈ L, 0 < e.ver := fun e he => fit_pos (h.fit e he)
theorem old_nonneg {L : List Ent} (h : OfOK L) (k : ByteArray) : 0 ≤ oldV L k := by
  unfold oldV
  cases hg : getE L k with
  | none => exact Int.le_refl _
  | some e => exact Int.le_of_lt (ok_pos h e (get_some hg).1)
theorem new_fit {L : List Ent} (h : OfOK L) {k v : ByteArray} (hb : badArg L k v = false) : fitE (newE L k v) = true := by
  have h0 := old_nonneg h k
  unfold badArg at hb
  rw [Bool.or_eq_false_iff] at hb
  have h2 := hb.2
  simp only [Bool.not_eq_eq_eq_not, Bool.not_false] at h2
  unfold fitE at h2 ⊢
  simp only [Bool.and_eq_true, decide_eq_true_eq] at h2 ⊢
  exact ⟨h2.1, by show (0 : Int) < oldV L k + 1; omega⟩
theorem ok_put {L : List Ent} (h : OfOK L) {k v : ByteArray} (hb : badArg L k v = false) (hf : full L k = false) : OfOK (joinE L [newE L k v]) := by
  have hm : OfOK [newE L k v] := ⟨fun e he => by rw [List.mem_singleton.1 he]; exact new_fit h hb, List.pairwise_singleton _ _, by simp⟩
  refine ok_join h hm ?_
  rw [put_count h.up]
  have hfew := h.few
  unfold full at hf
  show (if hasK L k = true then L.length else L.length + 1) ≤ 128
  split
  · exact hfew
  · rename_i hh
    have hh2 : hasK L k = false := by simpa using hh
    rw [hh2] at hf
    simp at hf
    omega
end Go.Proofs.YtaifmfnmgnmgbaaGreatDoor
