/- Pieces of a route, as plain data: what a move makes of them, and whose each key is then. -/
import Derived.Test.YtemgcliihbjjiaaDoorLess
namespace Go.Proofs.YtemgcliihbjjiaaDoor
open Go.RowKit Go.My

structure Pc where
  fr : ByteArray
  sh : Int
  ep : Int
def pc0 : Pc := ⟨ByteArray.empty, 0, 0⟩
def Up (l : List Pc) : Prop := l.Pairwise fun a b => lessK a.fr b.fr = true
def fitB (x : Pc) : Bool := decide (x.fr.size ≤ 16) && decide (0 ≤ x.sh) && decide (x.sh < 4) && decide (1 ≤ x.ep) && decide (x.ep ≤ 1099511627776)
structure Ok (l : List Pc) : Prop where
  ne : l ≠ []
  fst : ∀ o, l[0]? = some o → o.fr = ByteArray.empty
  up : Up l
  fit : ∀ x, x ∈ l → fitB x = true
  len : l.length ≤ 32

/-! ### whose a key is -/
def ow (d : Pc) (l : List Pc) (k : ByteArray) : Pc := l.foldl (fun a x => if lessK k x.fr then a else x) d
theorem ow_append (d : Pc) (a b : List Pc) (k : ByteArray) : ow d (a ++ b) k = ow (ow d a k) b k := List.foldl_append
theorem ow_cons (d x : Pc) (l : List Pc) (k : ByteArray) : ow d (x :: l) k = ow (if lessK k x.fr then d else x) l k := rfl
theorem ow_nil (d : Pc) (k : ByteArray) : ow d [] k = d := rfl
theorem ow_none {d : Pc} {l : List Pc} {k : ByteArray} (h : ∀ x, x ∈ l → lessK k x.fr = true) : ow d l k = d := by
  induction l with
  | nil => rfl
  | cons a t ih =>
    rw [ow_cons, h a (by simp), if_pos rfl]
    exact ih (fun x hx => h x (by simp [hx]))
theorem ow_rel {R : Pc → Pc → Prop} (hr : ∀ x, R x x) {d d' : Pc} (l : List Pc) (k : ByteArray) (h : R d d') : R (ow d l k) (ow d' l k) := by
  induction l generalizing d d' with
  | nil => exact h
  | cons a t ih =>
    rw [ow_cons, ow_cons]
    cases lessK k a.fr with
    | true => exact ih h
    | false => exact ih (hr a)
theorem ow_map {f : Pc → Pc} (l : List Pc) (hf : ∀ x, x ∈ l → (f x).fr = x.fr) (d d' : Pc) (hd : d' = f d) (k : ByteArray) : ow d' (l.map f) k = f (ow d l k) := by
  induction l generalizing d d' with
  | nil => exact hd
  | cons a t ih =>
    rw [List.map_cons, ow_cons, ow_cons, hf a (by simp)]
    cases lessK k a.fr with
    | true => exact ih (fun x hx => hf x (by simp [hx])) _ _ hd
    | false => exact ih (fun x hx => hf x (by simp [hx])) _ _ rfl
theorem ow_mem (d : Pc) (l : List Pc) (k : ByteArray) : ow d l k = d ∨ ow d l k ∈ l := by
  induction l generalizing d with
  | nil => exact .inl rfl
  | cons a t ih =>
    rw [ow_cons]
    cases lessK k a.fr with
    | true => exact (ih d).imp_right (fun h => List.mem_cons_of_mem _ h)
    | false =>
      rcases ih a with h | h
      · right; show ow a t k ∈ _; rw [h]; simp
      · exact .inr (List.mem_cons_of_mem _ h)
/-- The owner begins at the key or below. -/
theorem ow_le {d : Pc} {l : List Pc} {k : ByteArray} (h : lessK k d.fr = false) : lessK k (ow d l k).fr = false := by
  induction l generalizing d with
  | nil => exact h
  | cons a t ih =>
    rw [ow_cons]
    cases h2 : lessK k a.fr with
    | true => exact ih h
    | false => exact ih h2
/-- No piece that begins at the key or below begins behind the owner. -/
theorem ow_last {d : Pc} {l : List Pc} {k : ByteArray} (hd : ∀ x, x ∈ l → lessK d.fr x.fr = true) (hu : Up l) : ∀ x, x ∈ l → lessK k x.fr = false → lessK (ow d l k).fr x.fr = false := by
  induction l generalizing d with
  | nil => intro x hx; simp at hx
  | cons a t ih =>
    intro x hx hk
    rw [ow_cons]
    obtain ⟨h1, h2⟩ := List.pairwise_cons.1 hu
    cases h3 : lessK k a.fr with
    | true =>
      simp only [if_true]
      rcases List.mem_cons.1 hx with rfl | hx
      · rw [h3] at hk; cases hk
      · exact ih (fun y hy => hd y (by simp [hy])) h2 x hx hk
    | false =>
      show lessK (ow a t k).fr x.fr = false
      rcases List.mem_cons.1 hx with rfl | hx
      · rcases ow_mem x t k with h | h
        · rw [h]; exact lessK_irr _
        · exact lessK_asymm (h1 _ h)
      · exact ih h1 h2 x hx hk
/-- The key of a piece is that piece's. -/
theorem ow_self {d : Pc} {l : List Pc} (hu : Up l) {x : Pc} (hx : x ∈ l) : ow d l x.fr = x := by
  obtain ⟨a, b, rfl⟩ := List.append_of_mem hx
  rw [ow_append, ow_cons, lessK_irr]
  show ow x b x.fr = x
  refine ow_none (fun y hy => ?_)
  have h := (List.pairwise_append.1 hu).2.1
  exact (List.pairwise_cons.1 h).1 y hy

/-! ### places -/
def nx (l : List Pc) (k : ByteArray) : Nat := l.findIdx fun x => lessK k x.fr
theorem nx_le (l : List Pc) (k : ByteArray) : nx l k ≤ l.length := List.findIdx_le_length
theorem nx_pos {l : List Pc} (h : Ok l) (k : ByteArray) : 1 ≤ nx l k := by
  cases l with
  | nil => exact absurd rfl h.ne
  | cons a t =>
    have e := h.fst a rfl
    unfold nx
    rw [List.findIdx_cons, e, lessK_empty]
    simp
theorem nx_take {l : List Pc} {k : ByteArray} : ∀ x, x ∈ l.take (nx l k) → lessK k x.fr = false := by
  intro x hx
  obtain ⟨i, hi⟩ := List.mem_iff_getElem?.1 hx
  rw [List.getElem?_take] at hi
  split at hi
  · rename_i h
    obtain ⟨hl, he⟩ := List.getElem?_eq_some_iff.1 hi
    have := List.not_of_lt_findIdx (p := fun x : Pc => lessK k x.fr) h
    subst he
    simpa using this
  · cases hi
theorem nx_drop {l : List Pc} {k : ByteArray} (hu : Up l) : ∀ x, x ∈ l.drop (nx l k) → lessK k x.fr = true := by
  intro x hx
  obtain ⟨i, hi⟩ := List.mem_iff_getElem?.1 hx
  rw [List.getElem?_drop] at hi
  obtain ⟨hl, he⟩ := List.getElem?_eq_some_iff.1 hi
  have hlt : nx l k < l.length := by omega
  have h0 : lessK k (l[nx l k]'hlt).fr = true := by
    have := List.findIdx_getElem (p := fun x : Pc => lessK k x.fr) (w := hlt)
    exact this
  cases i with
  | zero => subst he; exact h0
  | succ i =>
    have := List.pairwise_iff_getElem.1 hu (nx l k) (nx l k + (i + 1)) hlt hl (by omega)
    subst he
    exact lessK_trans h0 this
theorem ow_split {d : Pc} {l : List Pc} {k : ByteArray} (hu : Up l) : ow d l k = (l.take (nx l k)).getLast?.getD d := by
  conv => lhs; rw [← List.take_append_drop (nx l k) l]
  rw [ow_append, ow_none (nx_drop hu)]
  have h := nx_take (l := l) (k := k)
  generalize l.take (nx l k) = a at *
  induction a generalizing d with
  | nil => rfl
  | cons x t ih =>
    rw [ow_cons, h x (by simp)]
    show ow x t k = _
    rw [ih (fun y hy => h y (by simp [hy]))]
    cases t with
    | nil => rfl
    | cons y r => simp [List.getLast?_eq_some_getLast]
def pl (l : List Pc) (k : ByteArray) : Nat := nx l k - 1
theorem pl_lt {l : List Pc} (h : Ok l) (k : ByteArray) : pl l k < l.length := by
  have := nx_pos h k
  have := nx_le l k
  unfold pl
  omega
theorem pl_get {l : List Pc} (h : Ok l) (k : ByteArray) : l[pl l k]? = some (ow pc0 l k) := by
  rw [ow_split h.up, List.getLast?_eq_getElem?, List.length_take]
  have h1 := nx_pos h k
  have h2 := nx_le l k
  rw [Nat.min_eq_left h2, List.getElem?_take, if_pos (by omega)]
  have h3 := List.getElem?_eq_getElem (pl_lt h k)
  unfold pl at h3 ⊢
  rw [h3]
  rfl

/-! ### a range's pieces -/
def rangedB (f t : ByteArray) : Bool := decide (f.size ≤ 16) && decide (t.size ≤ 16) && (decide (t.size = 0) || lessK f t)
def en (l : List Pc) (t : ByteArray) : Nat := if t.size = 0 then l.length else if lessK (ow pc0 l t).fr t then pl l t + 1 else pl l t
def bump (s : Int) (x : Pc) : Pc := ⟨x.fr, s, x.ep + 1⟩
def aheadL (l : List Pc) (f : ByteArray) (i : Nat) : List Pc := if lessK (l.getD i pc0).fr f then l.take i ++ [l.getD i pc0] else l.take i
def movedL (f : ByteArray) (s : Int) : List Pc → List Pc
  | [] => []
  | o :: os => bump s ⟨f, o.sh, o.ep⟩ :: os.map (bump s)
def insB (l : List Pc) (t : ByteArray) (e : Nat) : Bool := decide (t.size ≠ 0) && (decide (e = l.length) || lessK t (l.getD e pc0).fr)
def behindL (l : List Pc) (t : ByteArray) (e : Nat) : List Pc := if insB l t e then ⟨t, (l.getD (e - 1) pc0).sh, (l.getD (e - 1) pc0).ep⟩ :: l.drop e else l.drop e
def ownL (l : List Pc) (f t : ByteArray) : List Pc := (l.take (en l t)).drop (pl l f)
def movL (l : List Pc) (f t : ByteArray) (s : Int) : List Pc := aheadL l f (pl l f) ++ movedL f s (ownL l f t) ++ behindL l t (en l t)
end Go.Proofs.YtemgcliihbjjiaaDoor
