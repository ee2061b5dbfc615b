/- A move, as plain data: what it does to owners, to what begins a piece, and that pieces stay right. -/
import Derived.Test.YtemgcliihbjjiaaDoorRspec
namespace Go.Proofs.YtemgcliihbjjiaaDoor
open Go.RowKit Go.My

/-- A route's pieces, parted at a range. -/
structure Parts (l : List Pc) (f t : ByteArray) (P : List Pc) (o : Pc) (os S : List Pc) : Prop where
  eq : l = P ++ (o :: os) ++ S
  i : pl l f = P.length
  e : en l t = P.length + (os.length + 1)
  hp : ∀ x, x ∈ P → lessK x.fr o.fr = true
  ho : lessK f o.fr = false
  hos : ∀ x, x ∈ os → lessK f x.fr = true
  ht : t.size ≠ 0 → ∀ x, x ∈ o :: os → lessK x.fr t = true
  hS : t.size ≠ 0 → ∀ x, x ∈ S → lessK x.fr t = false
  hE : t.size = 0 → S = []
def insS (t : ByteArray) (S : List Pc) : Bool := decide (t.size ≠ 0) && (match S with | [] => true | x :: _ => lessK t x.fr)
def aheadP (P : List Pc) (o : Pc) (f : ByteArray) : List Pc := if lessK o.fr f then P ++ [o] else P
def lastP (o : Pc) (os : List Pc) : Pc := os.getLast?.getD o
def behindP (t : ByteArray) (o : Pc) (os S : List Pc) : List Pc := if insS t S then ⟨t, (lastP o os).sh, (lastP o os).ep⟩ :: S else S
def movP (P : List Pc) (o : Pc) (os S : List Pc) (f t : ByteArray) (s : Int) : List Pc := aheadP P o f ++ (bump s ⟨f, o.sh, o.ep⟩ :: os.map (bump s)) ++ behindP t o os S

theorem en_le {l : List Pc} (h : Ok l) (t : ByteArray) : en l t ≤ l.length := by
  unfold en
  have := pl_lt h t
  split
  · omega
  · split <;> omega
theorem pl_lt_en {l : List Pc} (h : Ok l) {f t : ByteArray} (hr : t.size ≠ 0 → lessK f t = true) : pl l f < en l t := by
  unfold en
  split
  · exact pl_lt h f
  · rename_i h0
    have hl := hr h0
    have hg := pl_get h t
    split
    · have : nx l f ≤ nx l t := by
        refine Nat.le_of_not_lt fun hlt => ?_
        have hlt2 : nx l t < l.length := Nat.lt_of_lt_of_le hlt (nx_le l f)
        have h1 := List.not_of_lt_findIdx (p := fun x : Pc => lessK f x.fr) hlt
        have h2 : lessK t (l[nx l t]'hlt2).fr = true := List.findIdx_getElem (p := fun x : Pc => lessK t x.fr) (w := hlt2)
        exact absurd (lessK_trans hl h2) (by simpa using h1)
      unfold pl; omega
    · rename_i hn
      have hn : lessK (ow pc0 l t).fr t = false := by simpa using hn
      have h3 : lessK t (ow pc0 l t).fr = false := ow_le (lessK_empty t)
      have e := lessK_anti hn h3
      refine Nat.lt_of_not_le fun hle => ?_
      -- the piece at place t is the beginning of t, which is behind f
      have hi : (ow pc0 l t) ∈ l.take (nx l f) := by
        refine List.mem_iff_getElem?.2 ⟨pl l t, ?_⟩
        rw [List.getElem?_take, if_pos (by have := nx_pos h f; unfold pl at hle ⊢; omega)]
        exact hg
      have := nx_take _ hi
      rw [e, hl] at this
      cases this
theorem parts_of {l : List Pc} (h : Ok l) {f t : ByteArray} (hr : t.size ≠ 0 → lessK f t = true) : ∃ P o os S, Parts l f t P o os S := by
  have h1 := pl_lt_en h hr
  have h2 := en_le h t
  have hpl := pl_get h f
  have hlt := pl_lt h f
  generalize hI : pl l f = i at *
  generalize hEE : en l t = e at *
  have e1 : l = l.take i ++ (l.drop i).take (e - i) ++ l.drop e := by
    conv => lhs; rw [← List.take_append_drop i l, ← List.take_append_drop (e - i) (l.drop i)]
    rw [List.drop_drop, List.append_assoc]
    congr 3
    omega
  have e2 : (l.drop i).take (e - i) = ow pc0 l f :: (l.drop (i + 1)).take (e - i - 1) := by
    rw [List.drop_eq_getElem_cons hlt]
    have e3 : e - i = (e - i - 1) + 1 := by omega
    rw [e3, List.take_succ_cons]
    rw [List.getElem?_eq_getElem hlt] at hpl
    simp only [Option.some.injEq] at hpl
    rw [hpl]
    rfl
  have hni : nx l f = i + 1 := by have := nx_pos h f; unfold pl at hI; omega
  refine ⟨l.take i, ow pc0 l f, (l.drop (i + 1)).take (e - i - 1), l.drop e, ?_⟩
  have hup := h.up
  refine ⟨by rw [← e2]; exact e1, by rw [hI, List.length_take, Nat.min_eq_left (by omega)], ?_, ?_, ow_le (lessK_empty f), ?_, ?_, ?_, ?_⟩
  · rw [hEE, List.length_take, List.length_take, List.length_drop, Nat.min_eq_left (by omega), Nat.min_eq_left (by omega)]; omega
  · intro x hx
    rw [e1, e2] at hup
    have := (List.pairwise_append.1 hup).1
    exact (List.pairwise_append.1 this).2.2 x hx _ (by simp)
  · intro x hx
    refine nx_drop h.up x ?_
    rw [hni]
    exact List.mem_of_mem_take hx
  · intro h0 x hx
    rw [← e2] at hx
    have hx2 : x ∈ l.take e := by
      have : (l.drop i).take (e - i) = (l.take e).drop i := by rw [List.drop_take]
      rw [this] at hx
      exact List.mem_of_mem_drop hx
    unfold en at hEE
    rw [if_neg h0] at hEE
    have hpt := pl_get h t
    have hown : lessK t (ow pc0 l t).fr = false := ow_le (lessK_empty t)
    obtain ⟨j, hj⟩ := List.mem_iff_getElem?.1 hx2
    rw [List.getElem?_take] at hj
    split at hj
    · rename_i hje
      obtain ⟨hjl, hjx⟩ := List.getElem?_eq_some_iff.1 hj
      have hple : l[pl l t]'(pl_lt h t) = ow pc0 l t := by
        have := pl_get h t
        rw [List.getElem?_eq_getElem (pl_lt h t)] at this
        simpa using this
      split at hEE
      · rename_i hlt2
        by_cases hjp : j = pl l t
        · subst hjp
          rw [← hjx, hple]
          exact hlt2
        · have := List.pairwise_iff_getElem.1 h.up j (pl l t) hjl (pl_lt h t) (by omega)
          rw [hple, hjx] at this
          exact lessK_trans this hlt2
      · have := List.pairwise_iff_getElem.1 h.up j (pl l t) hjl (pl_lt h t) (by omega)
        rw [hple, hjx] at this
        exact lessK_lt_le this hown
    · cases hj
  · intro h0 x hx
    unfold en at hEE
    rw [if_neg h0] at hEE
    have hown : lessK t (ow pc0 l t).fr = false := ow_le (lessK_empty t)
    have hple : l[pl l t]'(pl_lt h t) = ow pc0 l t := by
      have := pl_get h t
      rw [List.getElem?_eq_getElem (pl_lt h t)] at this
      simpa using this
    have hnt : nx l t = pl l t + 1 := by have := nx_pos h t; unfold pl; omega
    split at hEE
    · have := nx_drop h.up x (k := t) (by rw [hnt, hEE]; exact hx)
      exact lessK_asymm this
    · rename_i hn
      have hn : lessK (ow pc0 l t).fr t = false := by simpa using hn
      subst hEE
      rw [List.drop_eq_getElem_cons (pl_lt h t), hple] at hx
      rcases List.mem_cons.1 hx with rfl | hx
      · exact hn
      · exact lessK_asymm (nx_drop h.up x (k := t) (by rw [hnt]; exact hx))
  · intro h0
    unfold en at hEE
    rw [if_pos h0] at hEE
    subst hEE
    simp

theorem Parts.own {l : List Pc} {f t : ByteArray} {P : List Pc} {o : Pc} {os S : List Pc} (p : Parts l f t P o os S) : ownL l f t = o :: os := by
  unfold ownL
  rw [p.i, p.e, p.eq]
  have : P.length + (os.length + 1) = (P ++ (o :: os)).length := by simp
  rw [this, List.take_left]
  simp
theorem Parts.geti {l : List Pc} {f t : ByteArray} {P : List Pc} {o : Pc} {os S : List Pc} (p : Parts l f t P o os S) : l.getD (pl l f) pc0 = o := by
  rw [p.i, List.getD_eq_getElem?_getD, p.eq]
  simp
theorem Parts.ahead {l : List Pc} {f t : ByteArray} {P : List Pc} {o : Pc} {os S : List Pc} (p : Parts l f t P o os S) : aheadL l f (pl l f) = aheadP P o f := by
  unfold aheadL aheadP
  rw [p.geti, p.i]
  have : l.take P.length = P := by rw [p.eq]; simp
  rw [this]
theorem Parts.last {l : List Pc} {f t : ByteArray} {P : List Pc} {o : Pc} {os S : List Pc} (p : Parts l f t P o os S) : l.getD (en l t - 1) pc0 = lastP o os := by
  rw [p.e, List.getD_eq_getElem?_getD, p.eq]
  unfold lastP
  have h1 : P.length + (os.length + 1) - 1 = P.length + os.length := by omega
  rw [h1, List.append_assoc, List.getElem?_append_right (by omega), Nat.add_sub_cancel_left, List.getElem?_append_left (by simp)]
  rcases List.eq_nil_or_concat os with rfl | ⟨b, c, rfl⟩
  · simp
  · simp
theorem Parts.drop {l : List Pc} {f t : ByteArray} {P : List Pc} {o : Pc} {os S : List Pc} (p : Parts l f t P o os S) : l.drop (en l t) = S := by
  rw [p.e, p.eq]
  have : P.length + (os.length + 1) = (P ++ (o :: os)).length := by simp
  rw [this, List.drop_left]
theorem Parts.ins {l : List Pc} {f t : ByteArray} {P : List Pc} {o : Pc} {os S : List Pc} (p : Parts l f t P o os S) : insB l t (en l t) = insS t S := by
  unfold insB insS
  have h1 : l.length = P.length + (os.length + 1) + S.length := by rw [p.eq]; simp; omega
  have h2 : l.getD (en l t) pc0 = S.getD 0 pc0 := by
    rw [List.getD_eq_getElem?_getD, List.getD_eq_getElem?_getD, ← p.drop, List.getElem?_drop]
    simp
  rw [h2, p.e, h1]
  cases S with
  | nil => simp
  | cons x r => simp
theorem Parts.mov {l : List Pc} {f t : ByteArray} {P : List Pc} {o : Pc} {os S : List Pc} (p : Parts l f t P o os S) (s : Int) : movL l f t s = movP P o os S f t s := by
  unfold movL movP behindL behindP
  rw [p.ahead, p.own, p.ins, p.last, p.drop]
  rfl

/-! ### owners behind a move -/
def inB (f t k : ByteArray) : Bool := !lessK k f && (decide (t.size = 0) || lessK k t)
theorem ow_lastP {d o : Pc} {os : List Pc} {k : ByteArray} (h : ∀ x, x ∈ o :: os → lessK k x.fr = false) : ow d (o :: os) k = lastP o os := by
  rw [ow_cons, h o (by simp)]
  show ow o os k = _
  have h2 : ∀ x, x ∈ os → lessK k x.fr = false := fun x hx => h x (by simp [hx])
  clear h
  unfold lastP
  induction os generalizing o with
  | nil => rfl
  | cons a r ih =>
    rw [ow_cons, h2 a (by simp)]
    show ow a r k = _
    rw [ih (fun x hx => h2 x (by simp [hx]))]
    cases r with
    | nil => rfl
    | cons y r => simp [List.getLast?_eq_some_getLast]
section
variable {l : List Pc} {f t : ByteArray} {P : List Pc} {o : Pc} {os S : List Pc}
theorem ow_moved (d : Pc) (k : ByteArray) (s : Int) (hk : lessK k f = false) : ow d (bump s ⟨f, o.sh, o.ep⟩ :: os.map (bump s)) k = ow (bump s ⟨f, o.sh, o.ep⟩) (os.map (bump s)) k := by
  rw [ow_cons]
  show ow (if lessK k f then _ else _) _ _ = _
  rw [hk]
  rfl
/-- A key within the range. -/
theorem Parts.ow_in (p : Parts l f t P o os S) (s : Int) {k : ByteArray} (hk : inB f t k = true) :
    ow pc0 (movL l f t s) k = ow (bump s ⟨f, o.sh, o.ep⟩) (os.map (bump s)) k ∧ ow pc0 l k = ow o os k := by
  unfold inB at hk
  simp only [Bool.and_eq_true, Bool.not_eq_true', Bool.or_eq_true, decide_eq_true_eq] at hk
  obtain ⟨h1, h2⟩ := hk
  have hS : ∀ x, x ∈ S → lessK k x.fr = true := by
    intro x hx
    rcases h2 with h2 | h2
    · rw [p.hE h2] at hx; simp at hx
    · by_cases h0 : t.size = 0
      · rw [p.hE h0] at hx; simp at hx
      · exact lessK_lt_le h2 (p.hS h0 x hx)
  constructor
  · rw [p.mov]
    unfold movP
    rw [ow_append, ow_append, ow_moved _ _ _ h1]
    unfold behindP
    split
    · rename_i hi
      rw [ow_cons]
      have h3 : lessK k t = true := by
        rcases h2 with h2 | h2
        · unfold insS at hi
          simp [h2] at hi
        · exact h2
      show ow (if lessK k t then _ else _) _ _ = _
      rw [h3]
      exact ow_none hS
    · exact ow_none hS
  · rw [p.eq, ow_append, ow_append, ow_none hS, ow_cons]
    have : lessK k o.fr = false := lessK_trans' p.ho h1
    rw [this]
    rfl
theorem Parts.bump_in (p : Parts l f t P o os S) (s : Int) {k : ByteArray} (hk : inB f t k = true) :
    (ow pc0 (movL l f t s) k).sh = s ∧ (ow pc0 (movL l f t s) k).ep = (ow pc0 l k).ep + 1 := by
  obtain ⟨h1, h2⟩ := p.ow_in s hk
  rw [h1, h2]
  clear h1 h2
  have e : ow (bump s o) (os.map (bump s)) k = bump s (ow o os k) := ow_map (f := bump s) os (fun _ _ => rfl) o _ rfl k
  have r : (fun x y : Pc => x.sh = y.sh ∧ x.ep = y.ep) (ow (bump s ⟨f, o.sh, o.ep⟩) (os.map (bump s)) k) (ow (bump s o) (os.map (bump s)) k) :=
    ow_rel (R := fun x y : Pc => x.sh = y.sh ∧ x.ep = y.ep) (fun _ => ⟨rfl, rfl⟩) _ _ ⟨rfl, rfl⟩
  rw [e] at r
  exact r
/-- A key out of the range. -/
theorem Parts.keep_out (p : Parts l f t P o os S) (hft : t.size ≠ 0 → lessK f t = true) (s : Int) {k : ByteArray} (hk : inB f t k = false) :
    (ow pc0 (movL l f t s) k).sh = (ow pc0 l k).sh ∧ (ow pc0 (movL l f t s) k).ep = (ow pc0 l k).ep := by
  rw [p.mov]
  unfold movP
  rw [ow_append, ow_append]
  conv => congr <;> rw [p.eq, ow_append, ow_append]
  by_cases h1 : lessK k f = true
  · -- ahead of the range
    have hm : ∀ x, x ∈ bump s ⟨f, o.sh, o.ep⟩ :: os.map (bump s) → lessK k x.fr = true := by
      intro x hx
      rcases List.mem_cons.1 hx with rfl | hx
      · exact h1
      · obtain ⟨y, hy, rfl⟩ := List.mem_map.1 hx
        exact lessK_trans h1 (p.hos y hy)
    rw [ow_none hm]
    have hos : ∀ x, x ∈ os → lessK k x.fr = true := fun x hx => lessK_trans h1 (p.hos x hx)
    have e : ow pc0 (aheadP P o f) k = ow (ow pc0 P k) (o :: os) k := by
      unfold aheadP
      rw [ow_cons, ow_none hos]
      split
      · rw [ow_append, ow_cons, ow_nil]
      · rename_i hn
        have : o.fr = f := lessK_anti (by simpa using hn) p.ho
        rw [this, h1]
        rfl
    rw [e]
    unfold behindP
    split
    · rename_i hi
      rw [ow_cons]
      have h0 : t.size ≠ 0 := by
        intro h0
        unfold insS at hi
        simp [h0] at hi
      show (ow (if lessK k t then _ else _) _ _).sh = _ ∧ (ow (if lessK k t then _ else _) _ _).ep = _
      rw [lessK_trans h1 (hft h0)]
      exact ⟨rfl, rfl⟩
    · exact ⟨rfl, rfl⟩
  · -- behind it
    have h1 : lessK k f = false := by simpa using h1
    have h2 : t.size ≠ 0 ∧ lessK k t = false := by
      unfold inB at hk
      rw [h1] at hk
      simpa using hk
    have ho : ∀ x, x ∈ o :: os → lessK k x.fr = false := fun x hx => lessK_asymm (lessK_lt_le (p.ht h2.1 x hx) h2.2)
    rw [ow_lastP ho]
    unfold behindP
    split
    · rw [ow_cons]
      show (ow (if lessK k t then _ else _) _ _).sh = _ ∧ (ow (if lessK k t then _ else _) _ _).ep = _
      rw [h2.2]
      exact ow_rel (R := fun x y : Pc => x.sh = y.sh ∧ x.ep = y.ep) (fun _ => ⟨rfl, rfl⟩) S k ⟨rfl, rfl⟩
    · rename_i hi
      unfold insS at hi
      cases hs : S with
      | nil =>
        rw [hs] at hi
        simp [h2.1] at hi
      | cons x r =>
        rw [hs] at hi
        have h3 : lessK t x.fr = false := by simpa [h2.1] using hi
        have h4 := lessK_trans' h3 h2.2
        constructor <;> (conv => congr <;> rw [ow_cons, h4]) <;> rfl

/-! ### right pieces stay right -/
theorem Parts.mov_len (p : Parts l f t P o os S) (s : Int) : l.length ≤ (movL l f t s).length ∧ (movL l f t s).length ≤ l.length + 2 := by
  rw [p.mov]
  conv => congr <;> rw [p.eq]
  unfold movP aheadP behindP
  split <;> split <;> simp <;> omega
theorem Parts.up_mov (p : Parts l f t P o os S) (h : Ok l) (hft : t.size ≠ 0 → lessK f t = true) (s : Int) : Up (movL l f t s) := by
  have hu := h.up
  rw [p.eq] at hu
  obtain ⟨h1, h2, h3⟩ := List.pairwise_append.1 hu
  obtain ⟨h4, h5, h6⟩ := List.pairwise_append.1 h1
  obtain ⟨h7, h8⟩ := List.pairwise_cons.1 h5
  rw [p.mov]
  unfold movP
  have hA : Up (aheadP P o f) := by
    unfold aheadP
    split
    · exact List.pairwise_append.2 ⟨h4, List.pairwise_singleton _ _, fun a ha b hb => by
        simp at hb; subst hb; exact p.hp a ha⟩
    · exact h4
  have hAf : ∀ x, x ∈ aheadP P o f → lessK x.fr f = true := by
    unfold aheadP
    split
    · rename_i hl
      intro x hx
      rcases List.mem_append.1 hx with hx | hx
      · exact lessK_trans (p.hp x hx) hl
      · simp at hx; subst hx; exact hl
    · intro x hx
      exact lessK_lt_le (p.hp x hx) p.ho
  have hM : Up (bump s ⟨f, o.sh, o.ep⟩ :: os.map (bump s)) := by
    refine List.pairwise_cons.2 ⟨fun x hx => ?_, ?_⟩
    · obtain ⟨y, hy, rfl⟩ := List.mem_map.1 hx
      exact p.hos y hy
    · exact List.pairwise_map.2 h8
  have hMf : ∀ x, x ∈ bump s ⟨f, o.sh, o.ep⟩ :: os.map (bump s) → x.fr = f ∨ ∃ y, y ∈ os ∧ x.fr = y.fr := by
    intro x hx
    rcases List.mem_cons.1 hx with rfl | hx
    · exact .inl rfl
    · obtain ⟨y, hy, rfl⟩ := List.mem_map.1 hx
      exact .inr ⟨y, hy, rfl⟩
  have hB : Up (behindP t o os S) := by
    unfold behindP
    split
    · rename_i hi
      refine List.pairwise_cons.2 ⟨fun x hx => ?_, h2⟩
      unfold insS at hi
      simp only [Bool.and_eq_true, decide_eq_true_eq] at hi
      cases S with
      | nil => simp at hx
      | cons y r =>
        have h9 : lessK t y.fr = true := hi.2
        rcases List.mem_cons.1 hx with rfl | hx
        · exact h9
        · exact lessK_trans h9 ((List.pairwise_cons.1 h2).1 x hx)
    · exact h2
  have hBt : ∀ x, x ∈ behindP t o os S → (t.size ≠ 0 ∧ x.fr = t) ∨ x ∈ S := by
    unfold behindP
    split
    · rename_i hi
      intro x hx
      unfold insS at hi
      simp only [Bool.and_eq_true, decide_eq_true_eq] at hi
      rcases List.mem_cons.1 hx with rfl | hx
      · exact .inl ⟨hi.1, rfl⟩
      · exact .inr hx
    · intro x hx; exact .inr hx
  have hBm : ∀ x, x ∈ behindP t o os S → ∀ y, (y = f ∨ ∃ z, z ∈ os ∧ y = z.fr) → lessK y x.fr = true := by
    intro x hx y hy
    have hyt : t.size ≠ 0 → lessK y t = true := fun h0 => by
      rcases hy with rfl | ⟨z, hz, rfl⟩
      · exact hft h0
      · exact p.ht h0 z (by simp [hz])
    rcases hBt x hx with ⟨h0, e⟩ | hx
    · rw [e]; exact hyt h0
    · have h0 : t.size ≠ 0 := fun h0 => by rw [p.hE h0] at hx; simp at hx
      exact lessK_lt_le (hyt h0) (p.hS h0 x hx)
  refine List.pairwise_append.2 ⟨List.pairwise_append.2 ⟨hA, hM, fun a ha b hb => ?_⟩, hB, fun a ha b hb => ?_⟩
  · rcases hMf b hb with e | ⟨y, hy, e⟩
    · rw [e]; exact hAf a ha
    · rw [e]; exact lessK_trans (hAf a ha) (p.hos y hy)
  · rcases List.mem_append.1 ha with ha | ha
    · exact lessK_trans (hAf a ha) (hBm b hb f (.inl rfl))
    · exact hBm b hb a.fr (hMf a ha)
def fullB (l : List Pc) : Bool := l.any fun x => decide (x.ep = 1099511627776)
theorem Parts.ok_mov (p : Parts l f t P o os S) (h : Ok l) (hr : rangedB f t = true) (s : Int) (hs : 0 ≤ s) (hs4 : s < 4) (hf : fullB (o :: os) = false) (hlen : (movL l f t s).length ≤ 32) : Ok (movL l f t s) := by
  unfold rangedB at hr
  simp only [Bool.and_eq_true, Bool.or_eq_true, decide_eq_true_eq] at hr
  obtain ⟨⟨r1, r2⟩, r3⟩ := hr
  have hft : t.size ≠ 0 → lessK f t = true := fun h0 => r3.resolve_left h0
  have hmem : ∀ x, x ∈ l ↔ x ∈ P ∨ x = o ∨ x ∈ os ∨ x ∈ S := by
    intro x
    rw [p.eq]
    simp
  have hfit : ∀ x, x ∈ l → x.fr.size ≤ 16 ∧ 0 ≤ x.sh ∧ x.sh < 4 ∧ 1 ≤ x.ep ∧ x.ep ≤ 1099511627776 := fun x hx => by
    have := h.fit x hx
    unfold fitB at this
    simpa [and_assoc] using this
  have hfull : ∀ x, x ∈ o :: os → x.ep ≠ 1099511627776 := fun x hx e => by
    have : fullB (o :: os) = true := List.any_eq_true.2 ⟨x, hx, by simpa using e⟩
    rw [this] at hf
    cases hf
  have hlm : lastP o os = o ∨ lastP o os ∈ os := by
    unfold lastP
    rcases List.eq_nil_or_concat os with rfl | ⟨b, c, rfl⟩
    · exact .inl rfl
    · right; simp
  refine ⟨?_, ?_, p.up_mov h hft s, ?_, hlen⟩
  · intro e
    have := (p.mov_len s).1
    rw [e] at this
    have hl := h.ne
    cases l with
    | nil => exact hl rfl
    | cons a r => simp at this
  · intro x hx
    rw [p.mov] at hx
    unfold movP at hx
    have h0 := h.fst
    rw [p.eq] at h0
    cases hP : P with
    | nil =>
      rw [hP] at hx h0
      have ho := h0 o rfl
      have hfo : lessK o.fr f = false ∨ lessK o.fr f = true := by cases lessK o.fr f <;> simp
      rcases hfo with hfo | hfo
      · have e : o.fr = f := lessK_anti hfo p.ho
        unfold aheadP at hx
        rw [hfo] at hx
        simp at hx
        subst hx
        exact e.symm.trans ho
      · unfold aheadP at hx
        rw [hfo] at hx
        simp at hx
        subst hx
        exact ho
    | cons a r =>
      rw [hP] at hx h0
      have ha := h0 a rfl
      unfold aheadP at hx
      have : x = a := by
        split at hx <;> simp at hx <;> exact hx.symm
      rw [this]
      exact ha
  · intro x hx
    rw [p.mov] at hx
    unfold movP at hx
    have goal : x.fr.size ≤ 16 ∧ 0 ≤ x.sh ∧ x.sh < 4 ∧ 1 ≤ x.ep ∧ x.ep ≤ 1099511627776 := by
      rcases List.mem_append.1 hx with hx | hx
      · rcases List.mem_append.1 hx with hx | hx
        · refine hfit x ((hmem x).2 ?_)
          unfold aheadP at hx
          split at hx
          · rcases List.mem_append.1 hx with hx | hx
            · exact .inl hx
            · exact .inr (.inl (by simpa using hx))
          · exact .inl hx
        · rcases List.mem_cons.1 hx with rfl | hx
          · have h1 := hfit o ((hmem o).2 (by simp))
            have h2 := hfull o (by simp)
            exact ⟨r1, hs, hs4, by show 1 ≤ o.ep + 1; omega, by show o.ep + 1 ≤ _; omega⟩
          · obtain ⟨y, hy, rfl⟩ := List.mem_map.1 hx
            have h1 := hfit y ((hmem y).2 (by simp [hy]))
            have h2 := hfull y (by simp [hy])
            exact ⟨h1.1, hs, hs4, by show 1 ≤ y.ep + 1; omega, by show y.ep + 1 ≤ _; omega⟩
      · unfold behindP at hx
        split at hx
        · rcases List.mem_cons.1 hx with rfl | hx
          · have h1 := hfit (lastP o os) ((hmem _).2 (by rcases hlm with e | e; exact .inr (.inl e); exact .inr (.inr (.inl e))))
            exact ⟨r2, h1.2⟩
          · exact hfit x ((hmem x).2 (by simp [hx]))
        · exact hfit x ((hmem x).2 (by simp [hx]))
    unfold fitB
    simpa [and_assoc] using goal
/-- What began a piece does still. -/
theorem Parts.begins (p : Parts l f t P o os S) (s : Int) : ∀ x, x ∈ l → ∃ y, y ∈ movL l f t s ∧ y.fr = x.fr := by
  intro x hx
  rw [p.mov]
  unfold movP
  rw [p.eq] at hx
  rcases List.mem_append.1 hx with hx | hx
  · rcases List.mem_append.1 hx with hx | hx
    · refine ⟨x, ?_, rfl⟩
      unfold aheadP
      split <;> simp [hx]
    · rcases List.mem_cons.1 hx with rfl | hx
      · by_cases hl : lessK x.fr f = true
        · refine ⟨x, ?_, rfl⟩
          unfold aheadP
          rw [if_pos hl]
          simp
        · refine ⟨bump s ⟨f, x.sh, x.ep⟩, by simp, ?_⟩
          exact (lessK_anti (by simpa using hl) p.ho).symm
      · exact ⟨bump s x, by simp [List.mem_map]; exact .inr (.inr (.inl ⟨x, hx, rfl⟩)), rfl⟩
  · refine ⟨x, ?_, rfl⟩
    unfold behindP
    split <;> simp [hx]
theorem Parts.begins_f (p : Parts l f t P o os S) (s : Int) : ∃ y, y ∈ movL l f t s ∧ y.fr = f := by
  rw [p.mov]
  exact ⟨bump s ⟨f, o.sh, o.ep⟩, by unfold movP; simp, rfl⟩
theorem Parts.begins_t (p : Parts l f t P o os S) (h0 : t.size ≠ 0) (s : Int) : ∃ y, y ∈ movL l f t s ∧ y.fr = t := by
  rw [p.mov]
  unfold movP behindP
  by_cases hi : insS t S = true
  · rw [if_pos hi]
    exact ⟨⟨t, (lastP o os).sh, (lastP o os).ep⟩, by simp, rfl⟩
  · rw [if_neg hi]
    unfold insS at hi
    cases hs : S with
    | nil => rw [hs] at hi; simp [h0] at hi
    | cons x r =>
      rw [hs] at hi
      have h3 : lessK t x.fr = false := by simpa [h0] using hi
      exact ⟨x, by simp, lessK_anti (p.hS h0 x (by rw [hs]; simp)) h3⟩
end
/-- The piece that begins at a key is that key's. -/
theorem ow_begin {l : List Pc} (hu : Up l) {k : ByteArray} (h : ∃ y, y ∈ l ∧ y.fr = k) : (ow pc0 l k).fr = k := by
  obtain ⟨y, hy, rfl⟩ := h
  rw [ow_self hu hy]
end Go.Proofs.YtemgcliihbjjiaaDoor
