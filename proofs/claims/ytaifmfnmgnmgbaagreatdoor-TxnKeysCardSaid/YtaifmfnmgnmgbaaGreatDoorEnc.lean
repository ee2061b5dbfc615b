/- Merkle: the plain law of trees of digests. and more. -/
import Derived.Test.YtaifmfnmgnmgbaaGreatDoorBase
import Derived.IntWalk
/- Merkle: the plain law of trees of digests. -/
namespace Go.Proofs.YtaifmfnmgnmgbaaGreatDoor.Merkle

/-- the greatest power of two below a number -/
def half (n : Nat) : Nat := 2 ^ (n - 1).log2
theorem half_pos (n : Nat) : 0 < half n := Nat.pow_pos (by omega)
theorem half_lt {n : Nat} (h : 2 ≤ n) : half n < n := by
  have := Nat.log2_self_le (n := n - 1) (by omega)
  unfold half
  omega
theorem half_ge {n : Nat} (h : 2 ≤ n) : n ≤ 2 * half n := by
  have := Nat.lt_log2_self (n := n - 1)
  unfold half
  rw [Nat.pow_succ] at this
  omega
/-- has a part none of some leaves? -/
def apart (p n first fin : Nat) : Bool := decide (fin ≤ first) || (decide (fin ≤ p) || decide (p + n ≤ first))
theorem apart_iff {p n first fin : Nat} : apart p n first fin = true ↔ (fin ≤ first ∨ fin ≤ p ∨ p + n ≤ first) := by
  unfold apart
  simp
theorem apart_not {p n first fin : Nat} : apart p n first fin = false ↔ (first < fin ∧ p < fin ∧ first < p + n) := by
  unfold apart
  simp
/-- how many parts a proof has whole -/
def parts (p n first fin : Nat) : Nat :=
  if _h : apart p n first fin = true ∨ n ≤ 1 then (if apart p n first fin = true then 1 else 0)
  else parts p (half n) first fin + parts (p + half n) (n - half n) first fin
  termination_by n
  decreasing_by
  · exact half_lt (by omega)
  · have := half_pos n
    omega
theorem parts_apart {p n first fin : Nat} (h : apart p n first fin = true) : parts p n first fin = 1 := by rw [parts, dif_pos (.inl h), if_pos h]
theorem parts_leaf {p first fin : Nat} (h : apart p 1 first fin = false) : parts p 1 first fin = 0 := by rw [parts, dif_pos (.inr (Nat.le_refl _)), if_neg (by simp [h])]
theorem parts_node {p n first fin : Nat} (h : apart p n first fin = false) (hn : 2 ≤ n) : parts p n first fin = parts p (half n) first fin + parts (p + half n) (n - half n) first fin := by
  conv => lhs; rw [parts, dif_neg (by simp [h]; omega)]
theorem parts_le (n : Nat) : ∀ (p first fin : Nat), 1 ≤ n → parts p n first fin ≤ n := by
  induction n using Nat.strongRecOn with
  | ind n ih =>
    intro p first fin hn
    cases ha : apart p n first fin with
    | true => rw [parts_apart ha]; exact hn
    | false =>
      rcases Nat.lt_or_ge n 2 with h1 | h2
      · have : n = 1 := by omega
        subst this
        rw [parts_leaf ha]
        omega
      · rw [parts_node ha h2]
        have hp := half_pos n
        have hl := half_lt h2
        have := ih _ hl p first fin hp
        have := ih (n - half n) (by omega) (p + half n) first fin (by omega)
        omega
/-- all of a part's leaves: it has nothing beside -/
theorem parts_all (n : Nat) : ∀ (p first fin : Nat), 1 ≤ n → first ≤ p → p + n ≤ fin → parts p n first fin = 0 := by
  induction n using Nat.strongRecOn with
  | ind n ih =>
    intro p first fin hn h1 h2
    have ha : apart p n first fin = false := apart_not.2 ⟨by omega, by omega, by omega⟩
    rcases Nat.lt_or_ge n 2 with h3 | h3
    · have : n = 1 := by omega
      subst this
      exact parts_leaf ha
    · have hp := half_pos n
      have hl := half_lt h3
      rw [parts_node ha h3, ih _ hl p first fin hp h1 (by omega), ih (n - half n) (by omega) (p + half n) first fin (by omega) (by omega) (by omega)]
theorem half_le_pow {n h : Nat} (hn : 2 ≤ n) (hh : n ≤ 2 ^ (h + 1)) : half n ≤ 2 ^ h := by
  unfold half
  refine Nat.pow_le_pow_right (by omega) ?_
  have := (Nat.log2_lt (n := n - 1) (k := h + 1) (by omega)).2 (by omega)
  omega
/-- leaves from the left end on, or up to the right end: one beside a halving -/
theorem parts_side (h : Nat) : ∀ (n p first fin : Nat), 1 ≤ n → n ≤ 2 ^ h → (first ≤ p ∨ p + n ≤ fin) → parts p n first fin ≤ h + 1 := by
  induction h with
  | zero =>
    intro n p first fin hn hh _
    have : n = 1 := by simp at hh; omega
    subst this
    exact parts_le 1 p first fin (by omega)
  | succ h ih =>
    intro n p first fin hn hh hs
    cases ha : apart p n first fin with
    | true => rw [parts_apart ha]; omega
    | false =>
      obtain ⟨a1, a2, a3⟩ := apart_not.1 ha
      rcases Nat.lt_or_ge n 2 with h1 | h2
      · have : n = 1 := by omega
        subst this
        rw [parts_leaf ha]
        omega
      · have hp := half_pos n
        have hl := half_lt h2
        have hk := half_le_pow h2 hh
        have hg := half_ge h2
        rw [parts_node ha h2]
        rcases hs with hs | hs
        · rcases Nat.lt_or_ge (p + half n) fin with hm | hm
          · rw [parts_all (half n) p first fin hp hs (by omega)]
            have := ih (n - half n) (p + half n) first fin (by omega) (by omega) (.inl (by omega))
            omega
          · rw [parts_apart (p := p + half n) (apart_iff.2 (.inr (.inl hm)))]
            have := ih (half n) p first fin hp hk (.inl hs)
            omega
        · rcases Nat.lt_or_ge first (p + half n) with hm | hm
          · rw [parts_all (n - half n) (p + half n) first fin (by omega) (by omega) (by omega)]
            have := ih (half n) p first fin hp hk (.inr (by omega))
            omega
          · rw [parts_apart (p := p) (apart_iff.2 (.inr (.inr hm)))]
            have := ih (n - half n) (p + half n) first fin (by omega) (by omega) (.inr (by omega))
            omega
theorem parts_most (h : Nat) : ∀ (n p first fin : Nat), 1 ≤ n → n ≤ 2 ^ h → parts p n first fin ≤ 2 * h + 1 := by
  induction h with
  | zero =>
    intro n p first fin hn hh
    have : n = 1 := by simp at hh; omega
    subst this
    exact parts_le 1 p first fin (by omega)
  | succ h ih =>
    intro n p first fin hn hh
    cases ha : apart p n first fin with
    | true => rw [parts_apart ha]; omega
    | false =>
      obtain ⟨a1, a2, a3⟩ := apart_not.1 ha
      rcases Nat.lt_or_ge n 2 with h1 | h2
      · have : n = 1 := by omega
        subst this
        rw [parts_leaf ha]
        omega
      · have hp := half_pos n
        have hl := half_lt h2
        have hk := half_le_pow h2 hh
        have hg := half_ge h2
        rw [parts_node ha h2]
        rcases Nat.lt_or_ge (p + half n) fin with hm | hm
        · rcases Nat.lt_or_ge first (p + half n) with hm2 | hm2
          · have e1 := parts_side h (half n) p first fin hp hk (.inr (by omega))
            have e2 := parts_side h (n - half n) (p + half n) first fin (by omega) (by omega) (.inl (by omega))
            omega
          · rw [parts_apart (p := p) (apart_iff.2 (.inr (.inr hm2)))]
            have := ih (n - half n) (p + half n) first fin (by omega) (by omega)
            omega
        · rw [parts_apart (p := p + half n) (apart_iff.2 (.inr (.inl hm)))]
          have := ih (half n) p first fin hp hk
          omega

/-- A book's text of a digest. -/
def At (T : List ByteArray) (d : Nat) (s : ByteArray) : Prop := T[d]? = some s
/-- what was there is there -/
def Ext (T T' : List ByteArray) : Prop := ∀ (d : Nat) (s : ByteArray), At T d s → At T' d s
theorem Ext.refl (T : List ByteArray) : Ext T T := fun _ _ h => h
theorem Ext.trans {T T' T'' : List ByteArray} (h : Ext T T') (k : Ext T' T'') : Ext T T'' := fun d s hs => k d s (h d s hs)
theorem At.text {T : List ByteArray} {d : Nat} {s s' : ByteArray} (h : At T d s) (h' : At T d s') : s = s' := by
  unfold At at h h'
  rw [h] at h'
  cases h'
  rfl
theorem At.lt {T : List ByteArray} {d : Nat} {s : ByteArray} (h : At T d s) : d < T.length := (List.getElem?_eq_some_iff.1 h).1
theorem At.inj {T : List ByteArray} (hn : T.Nodup) {d d' : Nat} {s : ByteArray} (h : At T d s) (h' : At T d' s) : d = d' := by
  obtain ⟨h1, h2⟩ := List.getElem?_eq_some_iff.1 h
  obtain ⟨h3, h4⟩ := List.getElem?_eq_some_iff.1 h'
  rcases Nat.lt_trichotomy d d' with hl | hl | hl
  · exact absurd (h2.trans h4.symm) (List.pairwise_iff_getElem.1 hn d d' h1 h3 hl)
  · exact hl
  · exact absurd (h4.trans h2.symm) (List.pairwise_iff_getElem.1 hn d' d h3 h1 hl)

/-- What the digests are made of. -/
structure Enc (E : Type) where
  leafT : E → ByteArray
  nodeT : Nat → Nat → ByteArray
  noneT : ByteArray
  good : E → Prop
  lim : Nat
  leaf_inj : ∀ {x y}, good x → good y → leafT x = leafT y → x = y
  node_inj : ∀ {a b c d}, a < lim → b < lim → c < lim → d < lim → nodeT a b = nodeT c d → a = c ∧ b = d
  leaf_node : ∀ {x a b}, leafT x ≠ nodeT a b
  none_leaf : ∀ {x}, noneT ≠ leafT x
  none_node : ∀ {a b}, noneT ≠ nodeT a b

section
variable {E : Type} {K : Enc E} {T T' : List ByteArray}
/-- the top of leaves -/
inductive TopAt (K : Enc E) (T : List ByteArray) : List E → Nat → Prop
  | none (d : Nat) : At T d K.noneT → TopAt K T [] d
  | leaf (x : E) (d : Nat) : At T d (K.leafT x) → TopAt K T [x] d
  | node (l : List E) (d a b : Nat) : 2 ≤ l.length → TopAt K T (l.take (half l.length)) a → TopAt K T (l.drop (half l.length)) b → At T d (K.nodeT a b) → TopAt K T l d
theorem TopAt.ext {l : List E} {d : Nat} (h : TopAt K T l d) (he : Ext T T') : TopAt K T' l d := by
  induction h with
  | none d h => exact .none d (he _ _ h)
  | leaf x d h => exact .leaf x d (he _ _ h)
  | node l d a b hl _ _ h iha ihb => exact .node l d a b hl iha ihb (he _ _ h)
theorem TopAt.lt {l : List E} {d : Nat} (h : TopAt K T l d) : d < T.length := by
  cases h with
  | none d h => exact h.lt
  | leaf x d h => exact h.lt
  | node l d a b hl _ _ h => exact h.lt
theorem TopAt.inv_nil {d : Nat} (h : TopAt K T [] d) : At T d K.noneT := by
  cases h with
  | none d h => exact h
  | node l d a b hl _ _ h => simp at hl
theorem TopAt.inv_leaf {x : E} {d : Nat} (h : TopAt K T [x] d) : At T d (K.leafT x) := by
  cases h with
  | leaf x d h => exact h
  | node l d a b hl _ _ h => simp at hl
theorem TopAt.inv_node {l : List E} {d : Nat} (h : TopAt K T l d) (hl : 2 ≤ l.length) : ∃ a b, TopAt K T (l.take (half l.length)) a ∧ TopAt K T (l.drop (half l.length)) b ∧ At T d (K.nodeT a b) := by
  cases h with
  | none d h => simp at hl
  | leaf x d h => simp at hl
  | node l d a b hl h1 h2 h => exact ⟨a, b, h1, h2, h⟩
theorem TopAt.uniq (hn : T.Nodup) {l : List E} {d d' : Nat} (h : TopAt K T l d) (h' : TopAt K T l d') : d = d' := by
  induction h generalizing d' with
  | none d h => exact h.inj hn h'.inv_nil
  | leaf x d h => exact h.inj hn h'.inv_leaf
  | node l d a b hl _ _ h iha ihb =>
    obtain ⟨a', b', h1, h2, h3⟩ := h'.inv_node hl
    obtain rfl := iha h1
    obtain rfl := ihb h2
    exact h.inj hn h3
/-- a top's leaves -/
theorem TopAt.same (hlim : T.length ≤ K.lim) {l l' : List E} {d : Nat} (h : TopAt K T l d) (h' : TopAt K T l' d) (hg : ∀ x ∈ l, K.good x) (hg' : ∀ x ∈ l', K.good x) (hlen : l.length = l'.length) : l = l' := by
  induction h generalizing l' with
  | none d h => exact (List.length_eq_zero_iff.1 hlen.symm).symm
  | leaf x d h =>
    match l', hlen with
    | [y], _ =>
      have e := K.leaf_inj (hg x (by simp)) (hg' y (by simp)) (h.text h'.inv_leaf)
      rw [e]
  | node l d a b hl h1 h2 h iha ihb =>
    obtain ⟨a', b', k1, k2, k3⟩ := h'.inv_node (by omega)
    have ha := h1.lt
    have hb := h2.lt
    have ha' := k1.lt
    have hb' := k2.lt
    obtain ⟨rfl, rfl⟩ := K.node_inj (by omega) (by omega) (by omega) (by omega) (h.text k3)
    have e1 := iha k1 (fun x hx => hg x (List.mem_of_mem_take hx)) (fun x hx => hg' x (List.mem_of_mem_take hx)) (by simp [hlen])
    have e2 := ihb k2 (fun x hx => hg x (List.mem_of_mem_drop hx)) (fun x hx => hg' x (List.mem_of_mem_drop hx)) (by simp [hlen])
    rw [← List.take_append_drop (half l.length) l, e1, e2, List.take_append_drop]

/-- what a proof makes of a part: its top, and what is left of the tops beside -/
inductive MadeAt (K : Enc E) (T : List ByteArray) (L : List E) (first : Nat) : Nat → Nat → List Nat → Nat → List Nat → Prop
  | apart (p n d : Nat) (r : List Nat) : apart p n first (first + L.length) = true → d < K.lim → MadeAt K T L first p n (d :: r) d r
  | leaf (p d : Nat) (r : List Nat) (x : E) : apart p 1 first (first + L.length) = false → L[p - first]? = some x → At T d (K.leafT x) → MadeAt K T L first p 1 r d r
  | node (p n d a b : Nat) (r r1 r2 : List Nat) : apart p n first (first + L.length) = false → 2 ≤ n → MadeAt K T L first p (half n) r a r1 → MadeAt K T L first (p + half n) (n - half n) r1 b r2 → At T d (K.nodeT a b) → MadeAt K T L first p n r d r2
theorem MadeAt.ext {L : List E} {first p n d : Nat} {r r' : List Nat} (h : MadeAt K T L first p n r d r') (he : Ext T T') : MadeAt K T' L first p n r d r' := by
  induction h with
  | apart p n d r h hd => exact .apart p n d r h hd
  | leaf p d r x h hx hd => exact .leaf p d r x h hx (he _ _ hd)
  | node p n d a b r r1 r2 h hn _ _ hd ih1 ih2 => exact .node p n d a b r r1 r2 h hn ih1 ih2 (he _ _ hd)
theorem MadeAt.lt (hlim : T.length ≤ K.lim) {L : List E} {first p n d : Nat} {r r' : List Nat} (h : MadeAt K T L first p n r d r') : d < K.lim := by
  cases h with
  | apart _ _ _ _ h hd => exact hd
  | leaf _ _ _ x h hx hd => have := hd.lt; omega
  | node _ _ _ a b _ r1 _ h hn _ _ hd => have := hd.lt; omega
theorem MadeAt.uniq (hn : T'.Nodup) (he : Ext T T') {L : List E} {first p n d d2 : Nat} {r r' r2 : List Nat} (h : MadeAt K T L first p n r d r') (h2 : MadeAt K T' L first p n r d2 r2) : d = d2 ∧ r' = r2 := by
  induction h generalizing d2 r2 with
  | apart p n d r h hd =>
    cases h2 with
    | apart => exact ⟨rfl, rfl⟩
    | leaf _ _ _ x h' => rw [h] at h'; cases h'
    | node _ _ _ a b _ r1 _ h' => rw [h] at h'; cases h'
  | leaf p d r x h hx hd =>
    cases h2 with
    | apart _ _ _ _ h' => rw [h] at h'; cases h'
    | leaf _ _ _ y h' hy hd2 =>
      rw [hx] at hy
      cases hy
      exact ⟨(he _ _ hd).inj hn hd2, rfl⟩
    | node _ _ _ a b _ r1 _ h' hn' => omega
  | node p n d a b r r1 r2' h hn2 _ _ hd ih1 ih2 =>
    cases h2 with
    | apart _ _ _ _ h' => rw [h] at h'; cases h'
    | leaf _ _ _ y h' hy hd2 => omega
    | node _ _ _ a' b' _ r1' _ h' hn' k1 k2 hd2 =>
      obtain ⟨rfl, rfl⟩ := ih1 k1
      obtain ⟨rfl, rfl⟩ := ih2 k2
      exact ⟨(he _ _ hd).inj hn hd2, rfl⟩
/-- P6.2: a proof's leaves are the root's -/
theorem MadeAt.sound (hlim : T.length ≤ K.lim) {L : List E} {first p n d : Nat} {r r' : List Nat} (h : MadeAt K T L first p n r d r') (hL : ∀ x ∈ L, K.good x) :
    ∀ l : List E, l.length = n → (∀ x ∈ l, K.good x) → TopAt K T l d → ∀ i, i < n → first ≤ p + i → p + i < first + L.length → l[i]? = L[p + i - first]? := by
  induction h with
  | apart p n d r h hd =>
    intro l _ _ _ i hi h1 h2
    rcases apart_iff.1 h with h | h | h <;> omega
  | leaf p d r x h hx hd =>
    intro l hl hg ht i hi h1 h2
    match l, hl with
    | [y], _ =>
      have e := K.leaf_inj (hg y (by simp)) (hL x (List.mem_of_getElem? hx)) (ht.inv_leaf.text hd)
      have : i = 0 := by omega
      subst this
      rw [e]
      exact hx.symm
  | node p n d a b r r1 r2 h hn k1 k2 hd ih1 ih2 =>
    intro l hl hg ht i hi h1 h2
    subst hl
    obtain ⟨a', b', t1, t2, t3⟩ := ht.inv_node hn
    have ha := k1.lt hlim
    have hb := k2.lt hlim
    have ha' := t1.lt
    have hb' := t2.lt
    obtain ⟨rfl, rfl⟩ := K.node_inj (by omega) (by omega) (by omega) (by omega) (t3.text hd)
    have hk := half_lt hn
    rcases Nat.lt_or_ge i (half l.length) with hi' | hi'
    · have := ih1 (l.take (half l.length)) (by simp; omega) (fun x hx => hg x (List.mem_of_mem_take hx)) t1 i hi' h1 h2
      rw [List.getElem?_take, if_pos hi'] at this
      exact this
    · have := ih2 (l.drop (half l.length)) (by simp) (fun x hx => hg x (List.mem_of_mem_drop hx)) t2 (i - half l.length) (by omega) (by omega) (by omega)
      rw [List.getElem?_drop] at this
      have e1 : half l.length + (i - half l.length) = i := by omega
      have e2 : p + half l.length + (i - half l.length) - first = p + i - first := by omega
      rw [e1, e2] at this
      exact this

/-- the tops beside some leaves -/
inductive BesideAt (K : Enc E) (T : List ByteArray) (first fin : Nat) : Nat → List E → List Nat → Prop
  | apart (p : Nat) (l : List E) (d : Nat) : apart p l.length first fin = true → TopAt K T l d → BesideAt K T first fin p l [d]
  | leaf (p : Nat) (x : E) : apart p 1 first fin = false → BesideAt K T first fin p [x] []
  | node (p : Nat) (l : List E) (r s : List Nat) : apart p l.length first fin = false → 2 ≤ l.length → BesideAt K T first fin p (l.take (half l.length)) r → BesideAt K T first fin (p + half l.length) (l.drop (half l.length)) s → BesideAt K T first fin p l (r ++ s)
theorem BesideAt.ext {first fin p : Nat} {l : List E} {r : List Nat} (h : BesideAt K T first fin p l r) (he : Ext T T') : BesideAt K T' first fin p l r := by
  induction h with
  | apart p l d h ht => exact .apart p l d h (ht.ext he)
  | leaf p x h => exact .leaf p x h
  | node p l r s h hl _ _ ih1 ih2 => exact .node p l r s h hl ih1 ih2
theorem BesideAt.len {first fin p : Nat} {l : List E} {r : List Nat} (h : BesideAt K T first fin p l r) : r.length = parts p l.length first fin := by
  induction h with
  | apart p l d h ht => rw [parts_apart h]; rfl
  | leaf p x h => exact (parts_leaf h).symm
  | node p l r s h hl _ _ ih1 ih2 =>
    have := half_lt hl
    rw [parts_node h hl, List.length_append, ih1, ih2, List.length_take, List.length_drop, Nat.min_eq_left (by omega)]
theorem BesideAt.lt {first fin p : Nat} {l : List E} {r : List Nat} (h : BesideAt K T first fin p l r) : ∀ d ∈ r, d < T.length := by
  induction h with
  | apart p l d h ht => intro x hx; simp at hx; subst hx; exact ht.lt
  | leaf p x h => intro x hx; cases hx
  | node p l r s h hl _ _ ih1 ih2 => intro x hx; rcases List.mem_append.1 hx with h | h; exact ih1 x h; exact ih2 x h
/-- P6.3: what is made of the leaves and the tops beside is the top -/
theorem BesideAt.made {first p d : Nat} {l L : List E} {r q q' : List Nat} (h : BesideAt K T first (first + L.length) p l r) (he : Ext T T') (hL : ∀ i, i < l.length → first ≤ p + i → p + i < first + L.length → l[i]? = L[p + i - first]?)
    (hm : MadeAt K T' L first p l.length (r ++ q) d q') : TopAt K T' l d ∧ q' = q := by
  induction h generalizing d q q' with
  | apart p l d0 h ht =>
    generalize hn : l.length = n at hm h
    cases hm with
    | apart => exact ⟨ht.ext he, rfl⟩
    | leaf _ _ _ x h' => rw [h] at h'; cases h'
    | node _ _ _ a b _ r1 _ h' => rw [h] at h'; cases h'
  | leaf p x h =>
    simp only [List.length_singleton] at hm
    cases hm with
    | apart _ _ _ _ h' => rw [h] at h'; cases h'
    | leaf _ _ _ y h' hy hd2 =>
      obtain ⟨a1, a2, a3⟩ := apart_not.1 h
      have := hL 0 (by simp) (by omega) (by omega)
      rw [Nat.add_zero, hy] at this
      cases this
      exact ⟨.leaf _ _ hd2, rfl⟩
    | node _ _ _ a b _ r1 _ h' hn' => omega
  | node p l r s h hl _ _ ih1 ih2 =>
    have hk := half_lt hl
    generalize hn : l.length = n at hm
    generalize hz : r ++ s ++ q = z at hm
    cases hm with
    | apart _ _ _ _ h' => rw [← hn, h] at h'; cases h'
    | leaf _ _ _ y h' hy hd2 => omega
    | node _ _ _ a b _ r1 _ h' hn' k1 k2 hd2 =>
      subst hn
      subst hz
      rw [List.append_assoc] at k1
      have e1 : (l.take (half l.length)).length = half l.length := by simp; omega
      have e2 : (l.drop (half l.length)).length = l.length - half l.length := by simp
      rw [← e1] at k1
      obtain ⟨t1, rfl⟩ := ih1 (fun i hi h1 h2 => by
        rw [e1] at hi
        rw [List.getElem?_take, if_pos hi]
        exact hL i (by omega) h1 h2) k1
      rw [← e2] at k2
      obtain ⟨t2, rfl⟩ := ih2 (fun i hi h1 h2 => by
        rw [e2] at hi
        rw [List.getElem?_drop, hL _ (by omega) (by omega) (by omega)]
        congr 1
        omega) k2
      exact ⟨.node l d a b hl t1 t2 hd2, rfl⟩
end
end Go.Proofs.YtaifmfnmgnmgbaaGreatDoor.Merkle
/- Merkle: the bytes of texts and numbers, and what they tell. -/
namespace Go.Proofs.YtaifmfnmgnmgbaaGreatDoor.Merkle

/-- a number's last byte -/
def b8 (z : Int) : UInt8 := UInt8.ofNat (z % 256).toNat
theorem b8_inj {y z : Int} (h : b8 y = b8 z) : y % 256 = z % 256 := by
  have := congrArg UInt8.toNat h
  unfold b8 at this
  rw [UInt8.toNat_ofNat', UInt8.toNat_ofNat'] at this
  omega
theorem b8_int (z : Int) : ((b8 z).toNat : Int) = z % 256 := by
  unfold b8
  rw [UInt8.toNat_ofNat']
  omega
/-- a number's last bytes -/
def be : Nat → Int → List UInt8
  | 0, _ => []
  | k + 1, z => be k (z / 256) ++ [b8 z]
theorem be_len : ∀ (k : Nat) (z : Int), (be k z).length = k
  | 0, _ => rfl
  | k + 1, z => by rw [be, List.length_append, be_len k]; rfl
theorem be_inj : ∀ (k : Nat) {y z : Int}, be k y = be k z → ∃ q, y - z = q * 256 ^ k
  | 0, y, z, _ => ⟨y - z, by simp⟩
  | k + 1, y, z, h => by
    unfold be at h
    obtain ⟨h1, h2⟩ := List.append_inj h (by rw [be_len, be_len])
    obtain ⟨q, hq⟩ := be_inj k h1
    have h3 : y % 256 = z % 256 := b8_inj (by simpa using h2)
    refine ⟨q, ?_⟩
    rw [Int.pow_succ, ← Int.mul_assoc, ← hq]
    omega
theorem be8_inj {y z : Int} (hy : -9223372036854775808 ≤ y ∧ y ≤ 9223372036854775807) (hz : -9223372036854775808 ≤ z ∧ z ≤ 9223372036854775807) (h : be 8 y = be 8 z) : y = z := by
  obtain ⟨q, hq⟩ := be_inj 8 h
  have e : (256 : Int) ^ 8 = 18446744073709551616 := by decide
  rw [e] at hq
  omega
theorem be4_inj {y z : Int} (hy : 0 ≤ y ∧ y < 4294967296) (hz : 0 ≤ z ∧ z < 4294967296) (h : be 4 y = be 4 z) : y = z := by
  obtain ⟨q, hq⟩ := be_inj 4 h
  have e : (256 : Int) ^ 4 = 4294967296 := by decide
  rw [e] at hq
  omega
/-- a text's bytes -/
def txt (s : ByteArray) : List UInt8 := be 4 (s.size : Int) ++ s.data.toList
theorem txt_len (s : ByteArray) : (txt s).length = 4 + s.size := by unfold txt; rw [List.length_append, be_len]; rfl
theorem txt_inj {s s' : ByteArray} {r r' : List UInt8} (hs : s.size ≤ 65536) (hs' : s'.size ≤ 65536) (h : txt s ++ r = txt s' ++ r') : s = s' ∧ r = r' := by
  unfold txt at h
  rw [List.append_assoc, List.append_assoc] at h
  obtain ⟨h1, h2⟩ := List.append_inj h (by rw [be_len, be_len])
  have hz := be4_inj (by omega) (by omega) h1
  obtain ⟨h3, h4⟩ := List.append_inj h2 (by show s.size = s'.size; omega)
  refine ⟨?_, h4⟩
  obtain ⟨⟨l⟩⟩ := s
  obtain ⟨⟨l'⟩⟩ := s'
  simp at h3
  rw [h3]
structure Ent where
  key : ByteArray
  value : ByteArray
  ver : Int
def leafW : ByteArray := ⟨#[108, 101, 97, 102]⟩
def nodeW : ByteArray := ⟨#[110, 111, 100, 101]⟩
def noneW : ByteArray := ⟨#[110, 111, 110, 101]⟩
def rootW : ByteArray := ⟨#[114, 111, 111, 116]⟩
def ofL (l : List UInt8) : ByteArray := ⟨l.toArray⟩
theorem ofL_inj {l l' : List UInt8} (h : ofL l = ofL l') : l = l' := by
  unfold ofL at h
  have := congrArg (fun b : ByteArray => b.data.toList) h
  simpa using this
theorem ofL_size (l : List UInt8) : (ofL l).size = l.length := by unfold ofL; rfl
def leafT (x : Ent) : ByteArray := ofL (txt leafW ++ (txt x.key ++ (txt x.value ++ be 8 x.ver)))
def nodeT (a b : Nat) : ByteArray := ofL (txt nodeW ++ (be 8 (a : Int) ++ be 8 (b : Int)))
def noneT : ByteArray := ofL (txt noneW)
def rootT (n top : Nat) : ByteArray := ofL (txt rootW ++ (be 8 (n : Int) ++ be 8 (top : Int)))
def Good (x : Ent) : Prop := x.key.size ≤ 16 ∧ x.value.size ≤ 64 ∧ -9223372036854775808 ≤ x.ver ∧ x.ver ≤ 9223372036854775807
theorem leafT_inj {x y : Ent} (hx : Good x) (hy : Good y) (h : leafT x = leafT y) : x = y := by
  obtain ⟨k, v, n⟩ := x
  obtain ⟨k', v', n'⟩ := y
  obtain ⟨a1, a2, a3⟩ := hx
  obtain ⟨b1, b2, b3⟩ := hy
  simp only at a1 a2 a3 b1 b2 b3
  have h := ofL_inj h
  obtain ⟨_, h⟩ := txt_inj (by decide) (by decide) h
  obtain ⟨h1, h⟩ := txt_inj (by simp only; omega) (by simp only; omega) h
  obtain ⟨h2, h⟩ := txt_inj (by simp only; omega) (by simp only; omega) h
  simp only at h h1 h2
  rw [h1, h2, be8_inj a3 b3 h]
theorem pair_inj {t t' : ByteArray} (ht : t.size ≤ 65536) (ht' : t'.size ≤ 65536) {a b c d : Nat} (ha : a < 9223372036854775808) (hb : b < 9223372036854775808) (hc : c < 9223372036854775808) (hd : d < 9223372036854775808)
    (h : ofL (txt t ++ (be 8 (a : Int) ++ be 8 (b : Int))) = ofL (txt t' ++ (be 8 (c : Int) ++ be 8 (d : Int)))) : a = c ∧ b = d := by
  have h := ofL_inj h
  obtain ⟨_, h⟩ := txt_inj ht ht' h
  obtain ⟨h1, h2⟩ := List.append_inj h (by rw [be_len, be_len])
  have := be8_inj (y := (a : Int)) (z := (c : Int)) (by omega) (by omega) h1
  have := be8_inj (y := (b : Int)) (z := (d : Int)) (by omega) (by omega) h2
  omega
theorem tag_ne {t t' : ByteArray} (ht : t.size ≤ 65536) (ht' : t'.size ≤ 65536) (hne : t ≠ t') {r r' : List UInt8} : ofL (txt t ++ r) ≠ ofL (txt t' ++ r') := fun h => hne (txt_inj ht ht' (ofL_inj h)).1
theorem tag_one {t t' : ByteArray} (ht : t.size ≤ 65536) (ht' : t'.size ≤ 65536) (hne : t ≠ t') {r' : List UInt8} : ofL (txt t) ≠ ofL (txt t' ++ r') := fun h => by
  have h := ofL_inj h
  rw [← List.append_nil (txt t)] at h
  exact hne (txt_inj ht ht' h).1
theorem ne_words : leafW ≠ nodeW ∧ noneW ≠ leafW ∧ noneW ≠ nodeW := by decide
/-- the document's texts -/
def enc : Enc Ent where
  leafT := leafT
  nodeT := nodeT
  noneT := noneT
  good := Good
  lim := 9223372036854775808
  leaf_inj := leafT_inj
  node_inj := pair_inj (by decide) (by decide)
  leaf_node := tag_ne (by decide) (by decide) ne_words.1
  none_leaf := tag_one (by decide) (by decide) ne_words.2.1
  none_node := tag_one (by decide) (by decide) ne_words.2.2
theorem rootT_inj {a b c d : Nat} (ha : a < 9223372036854775808) (hb : b < 9223372036854775808) (hc : c < 9223372036854775808) (hd : d < 9223372036854775808) (h : rootT a b = rootT c d) : a = c ∧ b = d := pair_inj (by decide) (by decide) ha hb hc hd h
end Go.Proofs.YtaifmfnmgnmgbaaGreatDoor.Merkle
/- Txn: a transaction's bytes, and what they tell. -/
namespace Go.Proofs.YtaifmfnmgnmgbaaGreatDoor.Txn
open Go.Proofs.YtaifmfnmgnmgbaaGreatDoor.Merkle (be be_len b8 b8_int txt txt_len ofL ofL_size)

structure Rd where
  key : ByteArray
  ver : Int
structure Wr where
  key : ByteArray
  val : ByteArray
structure Tx where
  cl : Int
  num : Int
  R : List Rd
  W : List Wr
def rdT (x : Rd) : List UInt8 := txt x.key ++ be 8 x.ver
def wrT (x : Wr) : List UInt8 := txt x.key ++ txt x.val
/-- a transaction's bytes -/
def txT (t : Tx) : List UInt8 := be 8 t.cl ++ (be 8 t.num ++ (be 8 (t.R.length : Int) ++ (t.R.flatMap rdT ++ (be 8 (t.W.length : Int) ++ t.W.flatMap wrT))))
/-- bytes as a number -/
def beN (l : List UInt8) : Nat := l.foldl (fun n c => n * 256 + c.toNat) 0
theorem beN_snoc (l : List UInt8) (c : UInt8) : beN (l ++ [c]) = beN l * 256 + c.toNat := by unfold beN; rw [List.foldl_append]; rfl
theorem snocInd {p : List UInt8 → Prop} (h0 : p []) (h1 : ∀ l c, p l → p (l ++ [c])) (l : List UInt8) : p l := by
  rw [← List.reverse_reverse l]
  induction l.reverse with
  | nil => exact h0
  | cons c t ih => rw [List.reverse_cons]; exact h1 _ _ ih
theorem beN_lt (l : List UInt8) : beN l < 256 ^ l.length := by
  induction l using snocInd with
  | h0 => simp [beN]
  | h1 l c ih =>
    rw [beN_snoc, List.length_append, List.length_singleton, Nat.pow_succ]
    have := c.toNat_lt
    omega
theorem beN_be : ∀ (k : Nat) (z : Int), (beN (be k z) : Int) = z % (256 : Int) ^ k
  | 0, z => by simp [beN, be, Int.emod_one]
  | k + 1, z => by
    rw [be, beN_snoc]
    have h1 := beN_be k (z / 256)
    have h2 := b8_int z
    have h3 : z % (256 : Int) ^ (k + 1) = (z / 256) % (256 : Int) ^ k * 256 + z % 256 := by
      rw [Int.pow_succ]
      have hp : (0 : Int) < 256 ^ k := Int.pow_pos (by omega)
      have e1 := Int.emod_add_mul_ediv z 256
      have e2 := Int.emod_add_mul_ediv (z / 256) (256 ^ k)
      have e3 := Int.emod_nonneg (z / 256) (Int.ne_of_gt hp)
      have e4 := Int.emod_lt_of_pos (z / 256) hp
      have e5 : z = (z / 256 % 256 ^ k * 256 + z % 256) + (256 ^ k * 256) * (z / 256 / 256 ^ k) := by
        have e6 : 256 ^ k * 256 * (z / 256 / 256 ^ k) = 256 * (256 ^ k * (z / 256 / 256 ^ k)) := by rw [Int.mul_comm (256 ^ k) 256, Int.mul_assoc]
        omega
      have e7 : (z / 256 % 256 ^ k * 256 + z % 256) < 256 ^ k * 256 := by omega
      conv => lhs; rw [e5]
      rw [Int.add_mul_emod_self_left, Int.emod_eq_of_lt (by omega) e7]
    rw [h3, ← h1, ← h2, Int.natCast_add, Int.natCast_mul]
    rfl
theorem be_beN : ∀ (l : List UInt8), be l.length (beN l : Int) = l := by
  intro l
  induction l using snocInd with
  | h0 => rfl
  | h1 l c ih =>
    rw [List.length_append, List.length_singleton, be, beN_snoc]
    have h1 : (((beN l * 256 + c.toNat : Nat) : Int)) / 256 = (beN l : Int) := by
      have := c.toNat_lt
      omega
    have h2 : b8 ((beN l * 256 + c.toNat : Nat) : Int) = c := by
      apply UInt8.toNat_inj.1
      have h3 := b8_int ((beN l * 256 + c.toNat : Nat) : Int)
      have := c.toNat_lt
      omega
    rw [h1, h2, ih]
/-- eight bytes as a number with a sign -/
def num8 (l : List UInt8) : Int := IntKind.i64.wrap (beN l : Int)
theorem wrap_form (z : Int) : ∃ q, IntKind.i64.wrap z = z + q * 18446744073709551616 ∧ -9223372036854775808 ≤ IntKind.i64.wrap z ∧ IntKind.i64.wrap z ≤ 9223372036854775807 := by
  rw [IntKind.wrap_i64]
  exact ⟨-((z + 9223372036854775808) / 18446744073709551616), by omega, by omega, by omega⟩
theorem be_add (k : Nat) : ∀ (z q : Int), be k (z + q * 256 ^ k) = be k z := by
  induction k with
  | zero => intro z q; rfl
  | succ k ih =>
    intro z q
    rw [be, be]
    have h1 : (z + q * 256 ^ (k + 1)) / 256 = z / 256 + q * 256 ^ k := by
      rw [Int.pow_succ, ← Int.mul_assoc, Int.add_mul_ediv_right _ _ (by omega)]
    have h2 : b8 (z + q * 256 ^ (k + 1)) = b8 z := by
      unfold b8
      rw [Int.pow_succ, ← Int.mul_assoc, Int.add_mul_emod_self_right]
    rw [h1, h2, ih]
theorem num8_be {z : Int} (h : -9223372036854775808 ≤ z ∧ z ≤ 9223372036854775807) : num8 (be 8 z) = z := by
  unfold num8
  obtain ⟨q, h1, h2, h3⟩ := wrap_form (beN (be 8 z) : Int)
  have h4 := beN_be 8 z
  rw [show (256 : Int) ^ 8 = 18446744073709551616 by decide] at h4
  omega
theorem be_num8 {l : List UInt8} (h : l.length = 8) : be 8 (num8 l) = l := by
  obtain ⟨q, h1, _⟩ := wrap_form (beN l : Int)
  have h2 := be_beN l
  unfold num8
  rw [h1, show (18446744073709551616 : Int) = 256 ^ 8 by decide, be_add 8]
  rw [h] at h2
  exact h2
theorem num8_i64 (l : List UInt8) : -9223372036854775808 ≤ num8 l ∧ num8 l ≤ 9223372036854775807 := by
  obtain ⟨q, h1, h2, h3⟩ := wrap_form (beN l : Int)
  exact ⟨h2, h3⟩

/-! ### reading: what is left, or that it went wrong -/
abbrev St := Option (List UInt8)
def stNum : St → Int × St
  | none => (0, none)
  | some l => if l.length < 8 then (0, none) else (num8 (l.take 8), some (l.drop 8))
def stInt (most : Int) : St → Int × St
  | none => (0, none)
  | some l => if l.length < 8 then (0, none) else if num8 (l.take 8) < 0 ∨ most < num8 (l.take 8) then (0, none) else (num8 (l.take 8), some (l.drop 8))
def stText : St → ByteArray × St
  | none => (⟨#[]⟩, none)
  | some l => if l.length < 4 ∨ 65536 < beN (l.take 4) ∨ l.length < 4 + beN (l.take 4) then (⟨#[]⟩, none) else (ofL ((l.drop 4).take (beN (l.take 4))), some ((l.drop 4).drop (beN (l.take 4))))
def stRd (s : St) : Rd × St := (⟨(stText s).1, (stNum (stText s).2).1⟩, (stNum (stText s).2).2)
def stWr (s : St) : Wr × St := (⟨(stText s).1, (stText (stText s).2).1⟩, (stText (stText s).2).2)
def stRows {α : Type} (one : St → α × St) : Nat → St → List α × St
  | 0, s => ([], s)
  | n + 1, s => ((one s).1 :: (stRows one n (one s).2).1, (stRows one n (one s).2).2)
theorem stRows_snoc {α : Type} (one : St → α × St) : ∀ (n : Nat) (s : St), stRows one (n + 1) s = ((stRows one n s).1 ++ [(one (stRows one n s).2).1], (one (stRows one n s).2).2)
  | 0, s => rfl
  | n + 1, s => by
    rw [stRows, stRows_snoc one n]
    rfl
def stSome {α : Type} (one : St → α × St) (s : St) : List α × St := stRows one (stInt 8 s).1.toNat (stInt 8 s).2
def stTx (s : St) : Tx × St :=
  (⟨(stNum s).1, (stNum (stNum s).2).1, (stSome stRd (stNum (stNum s).2).2).1, (stSome stWr (stSome stRd (stNum (stNum s).2).2).2).1⟩, (stSome stWr (stSome stRd (stNum (stNum s).2).2).2).2)

theorem stNum_some (l : List UInt8) : stNum (some l) = if l.length < 8 then (0, none) else (num8 (l.take 8), some (l.drop 8)) := rfl
theorem stInt_some (most : Int) (l : List UInt8) : stInt most (some l) = if l.length < 8 then (0, none) else if num8 (l.take 8) < 0 ∨ most < num8 (l.take 8) then (0, none) else (num8 (l.take 8), some (l.drop 8)) := rfl
theorem stText_some (l : List UInt8) : stText (some l) = if l.length < 4 ∨ 65536 < beN (l.take 4) ∨ l.length < 4 + beN (l.take 4) then (⟨#[]⟩, none) else (ofL ((l.drop 4).take (beN (l.take 4))), some ((l.drop 4).drop (beN (l.take 4)))) := rfl
theorem stNum_be {z : Int} (h : -9223372036854775808 ≤ z ∧ z ≤ 9223372036854775807) (r : List UInt8) : stNum (some (be 8 z ++ r)) = (z, some r) := by
  have hl := be_len 8 z
  rw [stNum_some, if_neg (by rw [List.length_append, hl]; omega), List.take_append_of_le_length (by omega), List.drop_append_of_le_length (by omega), List.take_of_length_le (by omega), List.drop_of_length_le (by omega), num8_be h]
  rfl
theorem stInt_be {most z : Int} (h : 0 ≤ z ∧ z ≤ most) (hm : most ≤ 9223372036854775807) (r : List UInt8) : stInt most (some (be 8 z ++ r)) = (z, some r) := by
  have hl := be_len 8 z
  rw [stInt_some, if_neg (by rw [List.length_append, hl]; omega), List.take_append_of_le_length (by omega), List.drop_append_of_le_length (by omega), List.take_of_length_le (by omega), List.drop_of_length_le (by omega), num8_be (by omega), if_neg (by omega)]
  rfl
theorem stText_txt {s : ByteArray} (h : s.size ≤ 65536) (r : List UInt8) : stText (some (txt s ++ r)) = (s, some r) := by
  have hl := be_len 4 (s.size : Int)
  have h1 : (txt s ++ r).take 4 = be 4 (s.size : Int) := by
    unfold txt
    rw [List.append_assoc, List.take_append_of_le_length (by omega), List.take_of_length_le (by omega)]
  have h2 : (txt s ++ r).drop 4 = s.data.toList ++ r := by
    unfold txt
    rw [List.append_assoc, List.drop_append_of_le_length (by omega), List.drop_of_length_le (by omega)]
    rfl
  have h3 : beN (be 4 (s.size : Int)) = s.size := by
    have h4 := beN_be 4 (s.size : Int)
    rw [show (256 : Int) ^ 4 = 4294967296 by decide] at h4
    omega
  have h5 : s.data.toList.length = s.size := Array.length_toList
  rw [stText_some, h1, h2, h3, if_neg (by rw [List.length_append, txt_len]; omega), List.take_append_of_le_length (by omega), List.drop_append_of_le_length (by omega), List.take_of_length_le (by omega), List.drop_of_length_le (by omega)]
  unfold ofL
  simp
theorem stNum_inv {s : St} {z : Int} {r : List UInt8} (h : stNum s = (z, some r)) : s = some (be 8 z ++ r) ∧ -9223372036854775808 ≤ z ∧ z ≤ 9223372036854775807 := by
  cases s with
  | none => simp [stNum] at h
  | some l =>
    rw [stNum_some] at h
    by_cases hl : l.length < 8
    · rw [if_pos hl] at h
      simp at h
    · rw [if_neg hl] at h
      simp only [Prod.mk.injEq, Option.some.injEq] at h
      obtain ⟨rfl, rfl⟩ := h
      refine ⟨?_, num8_i64 _⟩
      rw [be_num8 (by rw [List.length_take]; omega), List.take_append_drop]
theorem stInt_inv {most : Int} {s : St} {z : Int} {r : List UInt8} (h : stInt most s = (z, some r)) : s = some (be 8 z ++ r) ∧ 0 ≤ z ∧ z ≤ most := by
  cases s with
  | none => simp [stInt] at h
  | some l =>
    rw [stInt_some] at h
    by_cases hl : l.length < 8
    · rw [if_pos hl] at h
      simp at h
    · rw [if_neg hl] at h
      by_cases hb : num8 (l.take 8) < 0 ∨ most < num8 (l.take 8)
      · rw [if_pos hb] at h
        simp at h
      · rw [if_neg hb] at h
        simp only [Prod.mk.injEq, Option.some.injEq] at h
        obtain ⟨rfl, rfl⟩ := h
        refine ⟨?_, by omega, by omega⟩
        rw [be_num8 (by rw [List.length_take]; omega), List.take_append_drop]
theorem stText_inv {s : St} {k : ByteArray} {r : List UInt8} (h : stText s = (k, some r)) : s = some (txt k ++ r) := by
  cases s with
  | none => simp [stText] at h
  | some l =>
    rw [stText_some] at h
    by_cases hl : l.length < 4 ∨ 65536 < beN (l.take 4) ∨ l.length < 4 + beN (l.take 4)
    · rw [if_pos hl] at h
      simp at h
    · rw [if_neg hl] at h
      simp only [Prod.mk.injEq, Option.some.injEq] at h
      obtain ⟨rfl, rfl⟩ := h
      have h4 : (l.take 4).length = 4 := by rw [List.length_take]; omega
      have h5 : ((l.drop 4).take (beN (l.take 4))).length = beN (l.take 4) := by rw [List.length_take, List.length_drop]; omega
      unfold txt
      rw [ofL_size, h5]
      have h6 := be_beN (l.take 4)
      rw [h4] at h6
      rw [h6]
      have h7 : (ofL ((l.drop 4).take (beN (l.take 4)))).data.toList = (l.drop 4).take (beN (l.take 4)) := by simp [ofL]
      rw [h7, List.append_assoc, List.take_append_drop, List.take_append_drop]
theorem stRd_rdT {x : Rd} (h : x.key.size ≤ 65536 ∧ -9223372036854775808 ≤ x.ver ∧ x.ver ≤ 9223372036854775807) (r : List UInt8) : stRd (some (rdT x ++ r)) = (x, some r) := by
  unfold stRd rdT
  rw [List.append_assoc, stText_txt h.1, stNum_be h.2]
theorem stWr_wrT {x : Wr} (h : x.key.size ≤ 65536 ∧ x.val.size ≤ 65536) (r : List UInt8) : stWr (some (wrT x ++ r)) = (x, some r) := by
  unfold stWr wrT
  rw [List.append_assoc, stText_txt h.1, stText_txt h.2]
theorem stRd_inv {s : St} {x : Rd} {r : List UInt8} (h : stRd s = (x, some r)) : s = some (rdT x ++ r) := by
  unfold stRd at h
  simp only [Prod.mk.injEq] at h
  obtain ⟨rfl, h⟩ := h
  have h1 := stNum_inv (s := (stText s).2) (z := (stNum (stText s).2).1) (r := r) (by rw [← h])
  have h2 := stText_inv (s := s) (k := (stText s).1) (r := be 8 (stNum (stText s).2).1 ++ r) (by rw [← h1.1])
  show s = some ((txt _ ++ be 8 _) ++ r)
  rw [List.append_assoc]
  exact h2
theorem stWr_inv {s : St} {x : Wr} {r : List UInt8} (h : stWr s = (x, some r)) : s = some (wrT x ++ r) := by
  unfold stWr at h
  simp only [Prod.mk.injEq] at h
  obtain ⟨rfl, h⟩ := h
  have h1 := stText_inv (s := (stText s).2) (k := (stText (stText s).2).1) (r := r) (by rw [← h])
  have h2 := stText_inv (s := s) (k := (stText s).1) (r := txt (stText (stText s).2).1 ++ r) (by rw [← h1])
  show s = some ((txt _ ++ txt _) ++ r)
  rw [List.append_assoc]
  exact h2
theorem stRows_flat {α : Type} (one : St → α × St) (T : α → List UInt8) (ok : α → Prop) (h1 : ∀ x r, ok x → one (some (T x ++ r)) = (x, some r)) : ∀ (L : List α) (r : List UInt8), (∀ x ∈ L, ok x) → stRows one L.length (some (L.flatMap T ++ r)) = (L, some r)
  | [], r, _ => rfl
  | x :: L, r, h => by
    rw [List.length_cons, stRows, List.flatMap_cons, List.append_assoc, h1 x _ (h x (by simp))]
    simp only
    rw [stRows_flat one T ok h1 L r (fun y hy => h y (by simp [hy]))]
theorem stRows_inv {α : Type} (one : St → α × St) (T : α → List UInt8) (h1 : ∀ s x r, one s = (x, some r) → s = some (T x ++ r)) : ∀ (n : Nat) (s : St) (L : List α) (r : List UInt8), stRows one n s = (L, some r) → s = some (L.flatMap T ++ r) ∧ L.length = n
  | 0, s, L, r, h => by
    unfold stRows at h
    simp only [Prod.mk.injEq] at h
    obtain ⟨rfl, rfl⟩ := h
    exact ⟨rfl, rfl⟩
  | n + 1, s, L, r, h => by
    unfold stRows at h
    simp only [Prod.mk.injEq] at h
    obtain ⟨rfl, h⟩ := h
    obtain ⟨h2, h3⟩ := stRows_inv one T h1 n (one s).2 (stRows one n (one s).2).1 r (by rw [← h])
    have h4 := h1 s (one s).1 ((stRows one n (one s).2).1.flatMap T ++ r) (by rw [← h2])
    refine ⟨?_, by rw [List.length_cons, h3]⟩
    rw [List.flatMap_cons, List.append_assoc]
    exact h4
/-! ### what may be a transaction -/
def okR (l : List Rd) (i : Nat) : Bool :=
  match l[i]? with
  | none => true
  | some x => decide (x.key.size ≤ 16) && (decide (0 ≤ x.ver) && decide (x.ver ≤ 1099511627776)) && (decide (i = 0) || match l[i - 1]? with
    | some y => Op.bytesLess y.key.toList x.key.toList
    | none => true)
def okW (l : List Wr) (i : Nat) : Bool :=
  match l[i]? with
  | none => true
  | some x => decide (x.key.size ≤ 16) && decide (x.val.size ≤ 64) && (decide (i = 0) || match l[i - 1]? with
    | some y => Op.bytesLess y.key.toList x.key.toList
    | none => true)
def risesR (l : List Rd) : Bool := (List.range l.length).all (okR l) && decide (l.length ≤ 8)
def risesW (l : List Wr) : Bool := (List.range l.length).all (okW l) && decide (l.length ≤ 8)
def rightT (t : Tx) : Bool := decide (0 ≤ t.cl) && decide (t.cl < 16) && decide (1 ≤ t.num) && decide (t.num ≤ 1099511627776) && decide (0 < t.R.length + t.W.length) && risesR t.R && risesW t.W
structure RightT (t : Tx) : Prop where
  cl : 0 ≤ t.cl ∧ t.cl < 16
  num : 1 ≤ t.num ∧ t.num ≤ 1099511627776
  some : 0 < t.R.length + t.W.length
  rl : t.R.length ≤ 8
  wl : t.W.length ≤ 8
  r : ∀ x ∈ t.R, x.key.size ≤ 16 ∧ 0 ≤ x.ver ∧ x.ver ≤ 1099511627776
  w : ∀ x ∈ t.W, x.key.size ≤ 16 ∧ x.val.size ≤ 64
theorem rightT_of {t : Tx} (h : rightT t = true) : RightT t := by
  unfold rightT risesR risesW at h
  simp only [Bool.and_eq_true, decide_eq_true_eq, List.all_eq_true] at h
  obtain ⟨⟨⟨⟨⟨⟨h1, h2⟩, h3⟩, h4⟩, h5⟩, h6, h7⟩, h8, h9⟩ := h
  refine ⟨⟨h1, h2⟩, ⟨h3, h4⟩, h5, h7, h9, fun x hx => ?_, fun x hx => ?_⟩
  · obtain ⟨i, hi⟩ := List.getElem?_of_mem hx
    have hl := (List.getElem?_eq_some_iff.1 hi).1
    have := h6 i (by simpa using hl)
    unfold okR at this
    rw [hi] at this
    simp only [Bool.and_eq_true, decide_eq_true_eq] at this
    exact ⟨this.1.1, this.1.2⟩
  · obtain ⟨i, hi⟩ := List.getElem?_of_mem hx
    have hl := (List.getElem?_eq_some_iff.1 hi).1
    have := h8 i (by simpa using hl)
    unfold okW at this
    rw [hi] at this
    simp only [Bool.and_eq_true, decide_eq_true_eq] at this
    exact this.1
/-- P10.2: a right transaction's bytes are read as it was -/
theorem back_yes {t : Tx} (h : rightT t = true) : stTx (some (txT t)) = (t, some []) := by
  have H := rightT_of h
  have hr : ∀ r, stSome stRd (some (be 8 (t.R.length : Int) ++ (t.R.flatMap rdT ++ r))) = (t.R, some r) := fun r => by
    unfold stSome
    have := H.rl
    rw [stInt_be (by omega) (by omega)]
    simp only [Int.toNat_natCast]
    exact stRows_flat stRd rdT (fun x => x.key.size ≤ 65536 ∧ -9223372036854775808 ≤ x.ver ∧ x.ver ≤ 9223372036854775807) (fun x r hx => stRd_rdT hx r) t.R r (fun x hx => by have := H.r x hx; omega)
  have hw : stSome stWr (some (be 8 (t.W.length : Int) ++ t.W.flatMap wrT)) = (t.W, some []) := by
    unfold stSome
    have := H.wl
    rw [stInt_be (by omega) (by omega)]
    simp only [Int.toNat_natCast]
    have h2 := stRows_flat stWr wrT (fun x => x.key.size ≤ 65536 ∧ x.val.size ≤ 65536) (fun x r hx => stWr_wrT hx r) t.W [] (fun x hx => by have := H.w x hx; omega)
    rw [List.append_nil] at h2
    exact h2
  unfold stTx txT
  have h1 := H.cl
  have h2 := H.num
  rw [stNum_be (by omega)]
  simp only
  rw [stNum_be (by omega)]
  simp only
  rw [hr]
  simp only
  rw [hw]
theorem stSome_inv {α : Type} (one : St → α × St) (T : α → List UInt8) (h1 : ∀ s x r, one s = (x, some r) → s = some (T x ++ r)) {s : St} {L : List α} {r : List UInt8} (h : stSome one s = (L, some r)) : s = some (be 8 (L.length : Int) ++ (L.flatMap T ++ r)) := by
  unfold stSome at h
  obtain ⟨h2, h3⟩ := stRows_inv one T h1 _ _ _ _ h
  obtain ⟨h4, h5, h6⟩ := stInt_inv (most := 8) (s := s) (z := (stInt 8 s).1) (r := L.flatMap T ++ r) (by rw [← h2])
  have h7 : (L.length : Int) = (stInt 8 s).1 := by omega
  rw [h7]
  exact h4
/-- P10.2: what is read has the bytes as they stood -/
theorem back_no {l : List UInt8} {t : Tx} (h : stTx (some l) = (t, some [])) : txT t = l := by
  unfold stTx at h
  simp only [Prod.mk.injEq] at h
  obtain ⟨rfl, h⟩ := h
  have h1 := stSome_inv stWr wrT (fun s x r => stWr_inv) (s := (stSome stRd (stNum (stNum (some l)).2).2).2) (L := (stSome stWr (stSome stRd (stNum (stNum (some l)).2).2).2).1) (r := []) (by rw [← h])
  have h2 := stSome_inv stRd rdT (fun s x r => stRd_inv) (s := (stNum (stNum (some l)).2).2) (L := (stSome stRd (stNum (stNum (some l)).2).2).1) (r := _) (by rw [← h1])
  have h3 := stNum_inv (s := (stNum (some l)).2) (z := (stNum (stNum (some l)).2).1) (r := _) (by rw [← h2])
  have h4 := stNum_inv (s := some l) (z := (stNum (some l)).1) (r := _) (by rw [← h3.1])
  have h5 := h4.1
  simp only [Option.some.injEq, List.append_nil] at h5
  exact h5.symm
theorem txT_len {t : Tx} (h : RightT t) : (txT t).length ≤ 2000 := by
  have h1 : ∀ L : List Rd, (∀ x ∈ L, x.key.size ≤ 16) → (L.flatMap rdT).length ≤ L.length * 28 := by
    intro L
    induction L with
    | nil => intro _; simp
    | cons x L ih =>
      intro hx
      have := ih (fun y hy => hx y (by simp [hy]))
      have := hx x (by simp)
      have hr : (rdT x).length = 12 + x.key.size := by unfold rdT; rw [List.length_append, txt_len, be_len]; omega
      rw [List.flatMap_cons, List.length_append, List.length_cons]
      omega
  have h2 : ∀ L : List Wr, (∀ x ∈ L, x.key.size ≤ 16 ∧ x.val.size ≤ 64) → (L.flatMap wrT).length ≤ L.length * 88 := by
    intro L
    induction L with
    | nil => intro _; simp
    | cons x L ih =>
      intro hx
      have := ih (fun y hy => hx y (by simp [hy]))
      have := hx x (by simp)
      have hr : (wrT x).length = 8 + x.key.size + x.val.size := by unfold wrT; rw [List.length_append, txt_len, txt_len]; omega
      rw [List.flatMap_cons, List.length_append, List.length_cons]
      omega
  have h3 := h1 t.R (fun x hx => (h.r x hx).1)
  have h4 := h2 t.W h.w
  have := h.rl
  have := h.wl
  unfold txT
  rw [List.length_append, List.length_append, List.length_append, List.length_append, List.length_append, be_len, be_len, be_len, be_len]
  omega
end Go.Proofs.YtaifmfnmgnmgbaaGreatDoor.Txn
