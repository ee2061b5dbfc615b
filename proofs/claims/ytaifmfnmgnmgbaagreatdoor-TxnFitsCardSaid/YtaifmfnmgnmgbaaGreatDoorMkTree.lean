/- Merkle: the plain law of trees of digests. -/
import Derived.Test.YtaifmfnmgnmgbaaGreatDoorGen
namespace Go.Proofs.YtaifmfnmgnmgbaaGreatDoor.Merkle

/-- the greatest power of two below a number -/
def half (n : Nat) : Nat := 2 ^ (n - 1).log2
theorem half_pos (n : Nat) : 0 < half n := Nat.pow_pos (by omega)
theorem half_lt {n : Nat} (h : 2 ≤ n) : half n < n := by
  have := Nat.log2_self_le (n := n - 1) (by omega)
  unfold half
  omega
theorem half_ge {n : Nat} (h : 2 ≤ n) : n ≤ 2 * half n := by
  have := Nat.lt_log2_self (n := n - 1)
  unfold half
  rw [Nat.pow_succ] at this
  omega
/-- has a part none of some leaves? -/
def apart (p n first fin : Nat) : Bool := decide (fin ≤ first) || (decide (fin ≤ p) || decide (p + n ≤ first))
theorem apart_iff {p n first fin : Nat} : apart p n first fin = true ↔ (fin ≤ first ∨ fin ≤ p ∨ p + n ≤ first) := by
  unfold apart
  simp
theorem apart_not {p n first fin : Nat} : apart p n first fin = false ↔ (first < fin ∧ p < fin ∧ first < p + n) := by
  unfold apart
  simp
/-- how many parts a proof has whole -/
def parts (p n first fin : Nat) : Nat :=
  if _h : apart p n first fin = true ∨ n ≤ 1 then (if apart p n first fin = true then 1 else 0)
  else parts p (half n) first fin + parts (p + half n) (n - half n) first fin
  termination_by n
  decreasing_by
  · exact half_lt (by omega)
  · have := half_pos n
    omega
theorem parts_apart {p n first fin : Nat} (h : apart p n first fin = true) : parts p n first fin = 1 := by rw [parts, dif_pos (.inl h), if_pos h]
theorem parts_leaf {p first fin : Nat} (h : apart p 1 first fin = false) : parts p 1 first fin = 0 := by rw [parts, dif_pos (.inr (Nat.le_refl _)), if_neg (by simp [h])]
theorem parts_node {p n first fin : Nat} (h : apart p n first fin = false) (hn : 2 ≤ n) : parts p n first fin = parts p (half n) first fin + parts (p + half n) (n - half n) first fin := by
  conv => lhs; rw [parts, dif_neg (by simp [h]; omega)]
theorem parts_le (n : Nat) : ∀ (p first fin : Nat), 1 ≤ n → parts p n first fin ≤ n := by
  induction n using Nat.strongRecOn with
  | ind n ih =>
    intro p first fin hn
    cases ha : apart p n first fin with
    | true => rw [parts_apart ha]; exact hn
    | false =>
      rcases Nat.lt_or_ge n 2 with h1 | h2
      · have : n = 1 := by omega
        subst this
        rw [parts_leaf ha]
        omega
      · rw [parts_node ha h2]
        have hp := half_pos n
        have hl := half_lt h2
        have := ih _ hl p first fin hp
        have := ih (n - half n) (by omega) (p + half n) first fin (by omega)
        omega
/-- all of a part's leaves: it has nothing beside -/
theorem parts_all (n : Nat) : ∀ (p first fin : Nat), 1 ≤ n → first ≤ p → p + n ≤ fin → parts p n first fin = 0 := by
  induction n using Nat.strongRecOn with
  | ind n ih =>
    intro p first fin hn h1 h2
    have ha : apart p n first fin = false := apart_not.2 ⟨by omega, by omega, by omega⟩
    rcases Nat.lt_or_ge n 2 with h3 | h3
    · have : n = 1 := by omega
      subst this
      exact parts_leaf ha
    · have hp := half_pos n
      have hl := half_lt h3
      rw [parts_node ha h3, ih _ hl p first fin hp h1 (by omega), ih (n - half n) (by omega) (p + half n) first fin (by omega) (by omega) (by omega)]
theorem half_le_pow {n h : Nat} (hn : 2 ≤ n) (hh : n ≤ 2 ^ (h + 1)) : half n ≤ 2 ^ h := by
  unfold half
  refine Nat.pow_le_pow_right (by omega) ?_
  have := (Nat.log2_lt (n := n - 1) (k := h + 1) (by omega)).2 (by omega)
  omega
/-- leaves from the left end on, or up to the right end: one beside a halving -/
theorem parts_side (h : Nat) : ∀ (n p first fin : Nat), 1 ≤ n → n ≤ 2 ^ h → (first ≤ p ∨ p + n ≤ fin) → parts p n first fin ≤ h + 1 := by
  induction h with
  | zero =>
    intro n p first fin hn hh _
    have : n = 1 := by simp at hh; omega
    subst this
    exact parts_le 1 p first fin (by omega)
  | succ h ih =>
    intro n p first fin hn hh hs
    cases ha : apart p n first fin with
    | true => rw [parts_apart ha]; omega
    | false =>
      obtain ⟨a1, a2, a3⟩ := apart_not.1 ha
      rcases Nat.lt_or_ge n 2 with h1 | h2
      · have : n = 1 := by omega
        subst this
        rw [parts_leaf ha]
        omega
      · have hp := half_pos n
        have hl := half_lt h2
        have hk := half_le_pow h2 hh
        have hg := half_ge h2
        rw [parts_node ha h2]
        rcases hs with hs | hs
        · rcases Nat.lt_or_ge (p + half n) fin with hm | hm
          · rw [parts_all (half n) p first fin hp hs (by omega)]
            have := ih (n - half n) (p + half n) first fin (by omega) (by omega) (.inl (by omega))
            omega
          · rw [parts_apart (p := p + half n) (apart_iff.2 (.inr (.inl hm)))]
            have := ih (half n) p first fin hp hk (.inl hs)
            omega
        · rcases Nat.lt_or_ge first (p + half n) with hm | hm
          · rw [parts_all (n - half n) (p + half n) first fin (by omega) (by omega) (by omega)]
            have := ih (half n) p first fin hp hk (.inr (by omega))
            omega
          · rw [parts_apart (p := p) (apart_iff.2 (.inr (.inr hm)))]
            have := ih (n - half n) (p + half n) first fin (by omega) (by omega) (.inr (by omega))
            omega
theorem parts_most (h : Nat) : ∀ (n p first fin : Nat), 1 ≤ n → n ≤ 2 ^ h → parts p n first fin ≤ 2 * h + 1 := by
  induction h with
  | zero =>
    intro n p first fin hn hh
    have : n = 1 := by simp at hh; omega
    subst this
    exact parts_le 1 p first fin (by omega)
  | succ h ih =>
    intro n p first fin hn hh
    cases ha : apart p n first fin with
    | true => rw [parts_apart ha]; omega
    | false =>
      obtain ⟨a1, a2, a3⟩ := apart_not.1 ha
      rcases Nat.lt_or_ge n 2 with h1 | h2
      · have : n = 1 := by omega
        subst this
        rw [parts_leaf ha]
        omega
      · have hp := half_pos n
        have hl := half_lt h2
        have hk := half_le_pow h2 hh
        have hg := half_ge h2
        rw [parts_node ha h2]
        rcases Nat.lt_or_ge (p + half n) fin with hm | hm
        · rcases Nat.lt_or_ge first (p + half n) with hm2 | hm2
          · have e1 := parts_side h (half n) p first fin hp hk (.inr (by omega))
            have e2 := parts_side h (n - half n) (p + half n) first fin (by omega) (by omega) (.inl (by omega))
            omega
          · rw [parts_apart (p := p) (apart_iff.2 (.inr (.inr hm2)))]
            have := ih (n - half n) (p + half n) first fin (by omega) (by omega)
            omega
        · rw [parts_apart (p := p + half n) (apart_iff.2 (.inr (.inl hm)))]
          have := ih (half n) p first fin hp hk
          omega

/-- A book's text of a digest. -/
def At (T : List ByteArray) (d : Nat) (s : ByteArray) : Prop := T[d]? = some s
/-- what was there is there -/
def Ext (T T' : List ByteArray) : Prop := ∀ (d : Nat) (s : ByteArray), At T d s → At T' d s
theorem Ext.refl (T : List ByteArray) : Ext T T := fun _ _ h => h
theorem Ext.trans {T T' T'' : List ByteArray} (h : Ext T T') (k : Ext T' T'') : Ext T T'' := fun d s hs => k d s (h d s hs)
theorem At.text {T : List ByteArray} {d : Nat} {s s' : ByteArray} (h : At T d s) (h' : At T d s') : s = s' := by
  unfold At at h h'
  rw [h] at h'
  cases h'
  rfl
theorem At.lt {T : List ByteArray} {d : Nat} {s : ByteArray} (h : At T d s) : d < T.length := (List.getElem?_eq_some_iff.1 h).1
theorem At.inj {T : List ByteArray} (hn : T.Nodup) {d d' : Nat} {s : ByteArray} (h : At T d s) (h' : At T d' s) : d = d' := by
  obtain ⟨h1, h2⟩ := List.getElem?_eq_some_iff.1 h
  obtain ⟨h3, h4⟩ := List.getElem?_eq_some_iff.1 h'
  rcases Nat.lt_trichotomy d d' with hl | hl | hl
  · exact absurd (h2.trans h4.symm) (List.pairwise_iff_getElem.1 hn d d' h1 h3 hl)
  · exact hl
  · exact absurd (h4.trans h2.symm) (List.pairwise_iff_getElem.1 hn d' d h3 h1 hl)

/-- What the digests are made of. -/
structure Enc (E : Type) where
  leafT : E → ByteArray
  nodeT : Nat → Nat → ByteArray
  noneT : ByteArray
  good : E → Prop
  lim : Nat
  leaf_inj : ∀ {x y}, good x → good y → leafT x = leafT y → x = y
  node_inj : ∀ {a b c d}, a < lim → b < lim → c < lim → d < lim → nodeT a b = nodeT c d → a = c ∧ b = d
  leaf_node : ∀ {x a b}, leafT x ≠ nodeT a b
  none_leaf : ∀ {x}, noneT ≠ leafT x
  none_node : ∀ {a b}, noneT ≠ nodeT a b

section
variable {E : Type} {K : Enc E} {T T' : List ByteArray}
/-- the top of leaves -/
inductive TopAt (K : Enc E) (T : List ByteArray) : List E → Nat → Prop
  | none (d : Nat) : At T d K.noneT → TopAt K T [] d
  | leaf (x : E) (d : Nat) : At T d (K.leafT x) → TopAt K T [x] d
  | node (l : List E) (d a b : Nat) : 2 ≤ l.length → TopAt K T (l.take (half l.length)) a → TopAt K T (l.drop (half l.length)) b → At T d (K.nodeT a b) → TopAt K T l d
theorem TopAt.ext {l : List E} {d : Nat} (h : TopAt K T l d) (he : Ext T T') : TopAt K T' l d := by
  induction h with
  | none d h => exact .none d (he _ _ h)
  | leaf x d h => exact .leaf x d (he _ _ h)
  | node l d a b hl _ _ h iha ihb => exact .node l d a b hl iha ihb (he _ _ h)
theorem TopAt.lt {l : List E} {d : Nat} (h : TopAt K T l d) : d < T.length := by
  cases h with
  | none d h => exact h.lt
  | leaf x d h => exact h.lt
  | node l d a b hl _ _ h => exact h.lt
theorem TopAt.inv_nil {d : Nat} (h : TopAt K T [] d) : At T d K.noneT := by
  cases h with
  | none d h => exact h
  | node l d a b hl _ _ h => simp at hl
theorem TopAt.inv_leaf {x : E} {d : Nat} (h : TopAt K T [x] d) : At T d (K.leafT x) := by
  cases h with
  | leaf x d h => exact h
  | node l d a b hl _ _ h => simp at hl
theorem TopAt.inv_node {l : List E} {d : Nat} (h : TopAt K T l d) (hl : 2 ≤ l.length) : ∃ a b, TopAt K T (l.take (half l.length)) a ∧ TopAt K T (l.drop (half l.length)) b ∧ At T d (K.nodeT a b) := by
  cases h with
  | none d h => simp at hl
  | leaf x d h => simp at hl
  | node l d a b hl h1 h2 h => exact ⟨a, b, h1, h2, h⟩
theorem TopAt.uniq (hn : T.Nodup) {l : List E} {d d' : Nat} (h : TopAt K T l d) (h' : TopAt K T l d') : d = d' := by
  induction h generalizing d' with
  | none d h => exact h.inj hn h'.inv_nil
  | leaf x d h => exact h.inj hn h'.inv_leaf
  | node l d a b hl _ _ h iha ihb =>
    obtain ⟨a', b', h1, h2, h3⟩ := h'.inv_node hl
    obtain rfl := iha h1
    obtain rfl := ihb h2
    exact h.inj hn h3
/-- a top's leaves -/
theorem TopAt.same (hlim : T.length ≤ K.lim) {l l' : List E} {d : Nat} (h : TopAt K T l d) (h' : TopAt K T l' d) (hg : ∀ x ∈ l, K.good x) (hg' : ∀ x ∈ l', K.good x) (hlen : l.length = l'.length) : l = l' := by
  induction h generalizing l' with
  | none d h => exact (List.length_eq_zero_iff.1 hlen.symm).symm
  | leaf x d h =>
    match l', hlen with
    | [y], _ =>
      have e := K.leaf_inj (hg x (by simp)) (hg' y (by simp)) (h.text h'.inv_leaf)
      rw [e]
  | node l d a b hl h1 h2 h iha ihb =>
    obtain ⟨a', b', k1, k2, k3⟩ := h'.inv_node (by omega)
    have ha := h1.lt
    have hb := h2.lt
    have ha' := k1.lt
    have hb' := k2.lt
    obtain ⟨rfl, rfl⟩ := K.node_inj (by omega) (by omega) (by omega) (by omega) (h.text k3)
    have e1 := iha k1 (fun x hx => hg x (List.mem_of_mem_take hx)) (fun x hx => hg' x (List.mem_of_mem_take hx)) (by simp [hlen])
    have e2 := ihb k2 (fun x hx => hg x (List.mem_of_mem_drop hx)) (fun x hx => hg' x (List.mem_of_mem_drop hx)) (by simp [hlen])
    rw [← List.take_append_drop (half l.length) l, e1, e2, List.take_append_drop]

/-- what a proof makes of a part: its top, and what is left of the tops beside -/
inductive MadeAt (K : Enc E) (T : List ByteArray) (L : List E) (first : Nat) : Nat → Nat → List Nat → Nat → List Nat → Prop
  | apart (p n d : Nat) (r : List Nat) : apart p n first (first + L.length) = true → d < K.lim → MadeAt K T L first p n (d :: r) d r
  | leaf (p d : Nat) (r : List Nat) (x : E) : apart p 1 first (first + L.length) = false → L[p - first]? = some x → At T d (K.leafT x) → MadeAt K T L first p 1 r d r
  | node (p n d a b : Nat) (r r1 r2 : List Nat) : apart p n first (first + L.length) = false → 2 ≤ n → MadeAt K T L first p (half n) r a r1 → MadeAt K T L first (p + half n) (n - half n) r1 b r2 → At T d (K.nodeT a b) → MadeAt K T L first p n r d r2
theorem MadeAt.ext {L : List E} {first p n d : Nat} {r r' : List Nat} (h : MadeAt K T L first p n r d r') (he : Ext T T') : MadeAt K T' L first p n r d r' := by
  induction h with
  | apart p n d r h hd => exact .apart p n d r h hd
  | leaf p d r x h hx hd => exact .leaf p d r x h hx (he _ _ hd)
  | node p n d a b r r1 r2 h hn _ _ hd ih1 ih2 => exact .node p n d a b r r1 r2 h hn ih1 ih2 (he _ _ hd)
theorem MadeAt.lt (hlim : T.length ≤ K.lim) {L : List E} {first p n d : Nat} {r r' : List Nat} (h : MadeAt K T L first p n r d r') : d < K.lim := by
  cases h with
  | apart _ _ _ _ h hd => exact hd
  | leaf _ _ _ x h hx hd => have := hd.lt; omega
  | node _ _ _ a b _ r1 _ h hn _ _ hd => have := hd.lt; omega
theorem MadeAt.uniq (hn : T'.Nodup) (he : Ext T T') {L : List E} {first p n d d2 : Nat} {r r' r2 : List Nat} (h : MadeAt K T L first p n r d r') (h2 : MadeAt K T' L first p n r d2 r2) : d = d2 ∧ r' = r2 := by
  induction h generalizing d2 r2 with
  | apart p n d r h hd =>
    cases h2 with
    | apart => exact ⟨rfl, rfl⟩
    | leaf _ _ _ x h' => rw [h] at h'; cases h'
    | node _ _ _ a b _ r1 _ h' => rw [h] at h'; cases h'
  | leaf p d r x h hx hd =>
    cases h2 with
    | apart _ _ _ _ h' => rw [h] at h'; cases h'
    | leaf _ _ _ y h' hy hd2 =>
      rw [hx] at hy
      cases hy
      exact ⟨(he _ _ hd).inj hn hd2, rfl⟩
    | node _ _ _ a b _ r1 _ h' hn' => omega
  | node p n d a b r r1 r2' h hn2 _ _ hd ih1 ih2 =>
    cases h2 with
    | apart _ _ _ _ h' => rw [h] at h'; cases h'
    | leaf _ _ _ y h' hy hd2 => omega
    | node _ _ _ a' b' _ r1' _ h' hn' k1 k2 hd2 =>
      obtain ⟨rfl, rfl⟩ := ih1 k1
      obtain ⟨rfl, rfl⟩ := ih2 k2
      exact ⟨(he _ _ hd).inj hn hd2, rfl⟩
/-- P6.2: a proof's leaves are the root's -/
theorem MadeAt.sound (hlim : T.length ≤ K.lim) {L : List E} {first p n d : Nat} {r r' : List Nat} (h : MadeAt K T L first p n r d r') (hL : ∀ x ∈ L, K.good x) :
    ∀ l : List E, l.length = n → (∀ x ∈ l, K.good x) → TopAt K T l d → ∀ i, i < n → first ≤ p + i → p + i < first + L.length → l[i]? = L[p + i - first]? := by
  induction h with
  | apart p n d r h hd =>
    intro l _ _ _ i hi h1 h2
    rcases apart_iff.1 h with h | h | h <;> omega
  | leaf p d r x h hx hd =>
    intro l hl hg ht i hi h1 h2
    match l, hl with
    | [y], _ =>
      have e := K.leaf_inj (hg y (by simp)) (hL x (List.mem_of_getElem? hx)) (ht.inv_leaf.text hd)
      have : i = 0 := by omega
      subst this
      rw [e]
      exact hx.symm
  | node p n d a b r r1 r2 h hn k1 k2 hd ih1 ih2 =>
    intro l hl hg ht i hi h1 h2
    subst hl
    obtain ⟨a', b', t1, t2, t3⟩ := ht.inv_node hn
    have ha := k1.lt hlim
    have hb := k2.lt hlim
    have ha' := t1.lt
    have hb' := t2.lt
    obtain ⟨rfl, rfl⟩ := K.node_inj (by omega) (by omega) (by omega) (by omega) (t3.text hd)
    have hk := half_lt hn
    rcases Nat.lt_or_ge i (half l.length) with hi' | hi'
    · have := ih1 (l.take (half l.length)) (by simp; omega) (fun x hx => hg x (List.mem_of_mem_take hx)) t1 i hi' h1 h2
      rw [List.getElem?_take, if_pos hi'] at this
      exact this
    · have := ih2 (l.drop (half l.length)) (by simp) (fun x hx => hg x (List.mem_of_mem_drop hx)) t2 (i - half l.length) (by omega) (by omega) (by omega)
      rw [List.getElem?_drop] at this
      have e1 : half l.length + (i - half l.length) = i := by omega
      have e2 : p + half l.length + (i - half l.length) - first = p + i - first := by omega
      rw [e1, e2] at this
      exact this

/-- the tops beside some leaves -/
inductive BesideAt (K : Enc E) (T : List ByteArray) (first fin : Nat) : Nat → List E → List Nat → Prop
  | apart (p : Nat) (l : List E) (d : Nat) : apart p l.length first fin = true → TopAt K T l d → BesideAt K T first fin p l [d]
  | leaf (p : Nat) (x : E) : apart p 1 first fin = false → BesideAt K T first fin p [x] []
  | node (p : Nat) (l : List E) (r s : List Nat) : apart p l.length first fin = false → 2 ≤ l.length → BesideAt K T first fin p (l.take (half l.length)) r → BesideAt K T first fin (p + half l.length) (l.drop (half l.length)) s → BesideAt K T first fin p l (r ++ s)
theorem BesideAt.ext {first fin p : Nat} {l : List E} {r : List Nat} (h : BesideAt K T first fin p l r) (he : Ext T T') : BesideAt K T' first fin p l r := by
  induction h with
  | apart p l d h ht => exact .apart p l d h (ht.ext he)
  | leaf p x h => exact .leaf p x h
  | node p l r s h hl _ _ ih1 ih2 => exact .node p l r s h hl ih1 ih2
theorem BesideAt.len {first fin p : Nat} {l : List E} {r : List Nat} (h : BesideAt K T first fin p l r) : r.length = parts p l.length first fin := by
  induction h with
  | apart p l d h ht => rw [parts_apart h]; rfl
  | leaf p x h => exact (parts_leaf h).symm
  | node p l r s h hl _ _ ih1 ih2 =>
    have := half_lt hl
    rw [parts_node h hl, List.length_append, ih1, ih2, List.length_take, List.length_drop, Nat.min_eq_left (by omega)]
theorem BesideAt.lt {first fin p : Nat} {l : List E} {r : List Nat} (h : BesideAt K T first fin p l r) : ∀ d ∈ r, d < T.length := by
  induction h with
  | apart p l d h ht => intro x hx; simp at hx; subst hx; exact ht.lt
  | leaf p x h => intro x hx; cases hx
  | node p l r s h hl _ _ ih1 ih2 => intro x hx; rcases List.mem_append.1 hx with h | h; exact ih1 x h; exact ih2 x h
/-- P6.3: what is made of the leaves and the tops beside is the top -/
theorem BesideAt.made {first p d : Nat} {l L : List E} {r q q' : List Nat} (h : BesideAt K T first (first + L.length) p l r) (he : Ext T T') (hL : ∀ i, i < l.length → first ≤ p + i → p + i < first + L.length → l[i]? = L[p + i - first]?)
    (hm : MadeAt K T' L first p l.length (r ++ q) d q') : TopAt K T' l d ∧ q' = q := by
  induction h generalizing d q q' with
  | apart p l d0 h ht =>
    generalize hn : l.length = n at hm h
    cases hm with
    | apart => exact ⟨ht.ext he, rfl⟩
    | leaf _ _ _ x h' => rw [h] at h'; cases h'
    | node _ _ _ a b _ r1 _ h' => rw [h] at h'; cases h'
  | leaf p x h =>
    simp only [List.length_singleton] at hm
    cases hm with
    | apart _ _ _ _ h' => rw [h] at h'; cases h'
    | leaf _ _ _ y h' hy hd2 =>
      obtain ⟨a1, a2, a3⟩ := apart_not.1 h
      have := hL 0 (by simp) (by omega) (by omega)
      rw [Nat.add_zero, hy] at this
      cases this
      exact ⟨.leaf _ _ hd2, rfl⟩
    | node _ _ _ a b _ r1 _ h' hn' => omega
  | node p l r s h hl _ _ ih1 ih2 =>
    have hk := half_lt hl
    generalize hn : l.length = n at hm
    generalize hz : r ++ s ++ q = z at hm
    cases hm with
    | apart _ _ _ _ h' => rw [← hn, h] at h'; cases h'
    | leaf _ _ _ y h' hy hd2 => omega
    | node _ _ _ a b _ r1 _ h' hn' k1 k2 hd2 =>
      subst hn
      subst hz
      rw [List.append_assoc] at k1
      have e1 : (l.take (half l.length)).length = half l.length := by simp; omega
      have e2 : (l.drop (half l.length)).length = l.length - half l.length := by simp
      rw [← e1] at k1
      obtain ⟨t1, rfl⟩ := ih1 (fun i hi h1 h2 => by
        rw [e1] at hi
        rw [List.getElem?_take, if_pos hi]
        exact hL i (by omega) h1 h2) k1
      rw [← e2] at k2
      obtain ⟨t2, rfl⟩ := ih2 (fun i hi h1 h2 => by
        rw [e2] at hi
        rw [List.getElem?_drop, hL _ (by omega) (by omega) (by omega)]
        congr 1
        omega) k2
      exact ⟨.node l d a b hl t1 t2 hd2, rfl⟩
end
end Go.Proofs.YtaifmfnmgnmgbaaGreatDoor.Merkle
