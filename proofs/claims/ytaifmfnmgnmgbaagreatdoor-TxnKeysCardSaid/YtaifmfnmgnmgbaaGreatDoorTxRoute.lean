/- A route: which pieces it may be made of, whose a key is; Of and Owner. -/
import Derived.Test.YtaifmfnmgnmgbaaGreatDoorAses
import Derived.Test.YtaifmfnmgnmgbaaGreatDoorBase
import Derived.WalkSpells
import Derived.WalkLawsBesides
import Derived.Deep.QuietTactic
import Derived.BigQuiet
import Derived.StillTailTactics
import Derived.Lib.Hide
import Derived.Deep.AppendLies
import Derived.Laws.AppendOwn
import Derived.Laws.AppendOwnNone
import Derived.RegionTactic
import Derived.ChangeAlike
import Derived.BigRegion
import Derived.Handy
namespace Go.Proofs.YtaifmfnmgnmgbaaGreatDoor.Route
open Go.RowKit Go.My

structure Pc where
  fr : ByteArray
  sh : Int
  ep : Int
def pc0 : Pc := ⟨ByteArray.empty, 0, 0⟩
def Up (l : List Pc) : Prop := l.Pairwise fun a b => lessK a.fr b.fr = true
def fitB (x : Pc) : Bool := decide (x.fr.size ≤ 16) && decide (0 ≤ x.sh) && decide (x.sh < 4) && decide (1 ≤ x.ep) && decide (x.ep ≤ 1099511627776)
structure Ok (l : List Pc) : Prop where
  ne : l ≠ []
  fst : ∀ o, l[0]? = some o → o.fr = ByteArray.empty
  up : Up l
  fit : ∀ x, x ∈ l → fitB x = true
  len : l.length ≤ 32

/- ### whose a key is -/
def ow (d : Pc) (l : List Pc) (k : ByteArray) : Pc := l.foldl (fun a x => if lessK k x.fr then a else x) d
theorem ow_append (d : Pc) (a b : List Pc) (k : ByteArray) : ow d (a ++ b) k = ow (ow d a k) b k := List.foldl_append
theorem ow_cons (d x : Pc) (l : List Pc) (k : ByteArray) : ow d (x :: l) k = ow (if lessK k x.fr then d else x) l k := rfl
theorem ow_nil (d : Pc) (k : ByteArray) : ow d [] k = d := rfl
theorem ow_none {d : Pc} {l : List Pc} {k : ByteArray} (h : ∀ x, x ∈ l → lessK k x.fr = true) : ow d l k = d := by
  induction l with
  | nil => rfl
  | cons a t ih =>
    rw [ow_cons, h a (by simp), if_pos rfl]
    exact ih (fun x hx => h x (by simp [hx]))
theorem ow_rel {R : Pc → Pc → Prop} (hr : ∀ x, R x x) {d d' : Pc} (l : List Pc) (k : ByteArray) (h : R d d') : R (ow d l k) (ow d' l k) := by
  induction l generalizing d d' with
  | nil => exact h
  | cons a t ih =>
    rw [ow_cons, ow_cons]
    cases lessK k a.fr with
    | true => exact ih h
    | false => exact ih (hr a)
theorem ow_map {f : Pc → Pc} (l : List Pc) (hf : ∀ x, x ∈ l → (f x).fr = x.fr) (d d' : Pc) (hd : d' = f d) (k : ByteArray) : ow d' (l.map f) k = f (ow d l k) := by
  induction l generalizing d d' with
  | nil => exact hd
  | cons a t ih =>
    rw [List.map_cons, ow_cons, ow_cons, hf a (by simp)]
    cases lessK k a.fr with
    | true => exact ih (fun x hx => hf x (by simp [hx])) _ _ hd
    | false => exact ih (fun x hx => hf x (by simp [hx])) _ _ rfl
theorem ow_mem (d : Pc) (l : List Pc) (k : ByteArray) : ow d l k = d ∨ ow d l k ∈ l := by
  induction l generalizing d with
  | nil => exact .inl rfl
  | cons a t ih =>
    rw [ow_cons]
    cases lessK k a.fr with
    | true => exact (ih d).imp_right (fun h => List.mem_cons_of_mem _ h)
    | false =>
      rcases ih a with h | h
      · right; show ow a t k ∈ _; rw [h]; simp
      · exact .inr (List.mem_cons_of_mem _ h)
/-- The owner begins at the key or below. -/
theorem ow_le {d : Pc} {l : List Pc} {k : ByteArray} (h : lessK k d.fr = false) : lessK k (ow d l k).fr = false := by
  induction l generalizing d with
  | nil => exact h
  | cons a t ih =>
    rw [ow_cons]
    cases h2 : lessK k a.fr with
    | true => exact ih h
    | false => exact ih h2
/-- No piece that begins at the key or below begins behind the owner. -/
theorem ow_last {d : Pc} {l : List Pc} {k : ByteArray} (hd : ∀ x, x ∈ l → lessK d.fr x.fr = true) (hu : Up l) : ∀ x, x ∈ l → lessK k x.fr = false → lessK (ow d l k).fr x.fr = false := by
  induction l generalizing d with
  | nil => intro x hx; simp at hx
  | cons a t ih =>
    intro x hx hk
    rw [ow_cons]
    obtain ⟨h1, h2⟩ := List.pairwise_cons.1 hu
    cases h3 : lessK k a.fr with
    | true =>
      simp only [if_true]
      rcases List.mem_cons.1 hx with rfl | hx
      · rw [h3] at hk; cases hk
      · exact ih (fun y hy => hd y (by simp [hy])) h2 x hx hk
    | false =>
      show lessK (ow a t k).fr x.fr = false
      rcases List.mem_cons.1 hx with rfl | hx
      · rcases ow_mem x t k with h | h
        · rw [h]; exact lessK_irr _
        · exact lessK_asymm (h1 _ h)
      · exact ih h1 h2 x hx hk
/-- The key of a piece is that piece's. -/
theorem ow_self {d : Pc} {l : List Pc} (hu : Up l) {x : Pc} (hx : x ∈ l) : ow d l x.fr = x := by
  obtain ⟨a, b, rfl⟩ := List.append_of_mem hx
  rw [ow_append, ow_cons, lessK_irr]
  show ow x b x.fr = x
  refine ow_none (fun y hy => ?_)
  have h := (List.pairwise_append.1 hu).2.1
  exact (List.pairwise_cons.1 h).1 y hy

/- ### places -/
def nx (l : List Pc) (k : ByteArray) : Nat := l.findIdx fun x => lessK k x.fr
theorem nx_le (l : List Pc) (k : ByteArray) : nx l k ≤ l.length := List.findIdx_le_length
theorem nx_pos {l : List Pc} (h : Ok l) (k : ByteArray) : 1 ≤ nx l k := by
  cases l with
  | nil => exact absurd rfl h.ne
  | cons a t =>
    have e := h.fst a rfl
    unfold nx
    rw [List.findIdx_cons, e, lessK_empty]
    simp
theorem nx_take {l : List Pc} {k : ByteArray} : ∀ x, x ∈ l.take (nx l k) → lessK k x.fr = false := by
  intro x hx
  obtain ⟨i, hi⟩ := List.mem_iff_getElem?.1 hx
  rw [List.getElem?_take] at hi
  split at hi
  · rename_i h
    obtain ⟨hl, he⟩ := List.getElem?_eq_some_iff.1 hi
    have := List.not_of_lt_findIdx (p := fun x : Pc => lessK k x.fr) h
    subst he
    simpa using this
  · cases hi
theorem nx_drop {l : List Pc} {k : ByteArray} (hu : Up l) : ∀ x, x ∈ l.drop (nx l k) → lessK k x.fr = true := by
  intro x hx
  obtain ⟨i, hi⟩ := List.mem_iff_getElem?.1 hx
  rw [List.getElem?_drop] at hi
  obtain ⟨hl, he⟩ := List.getElem?_eq_some_iff.1 hi
  have hlt : nx l k < l.length := by omega
  have h0 : lessK k (l[nx l k]'hlt).fr = true := by
    have := List.findIdx_getElem (p := fun x : Pc => lessK k x.fr) (w := hlt)
    exact this
  cases i with
  | zero => subst he; exact h0
  | succ i =>
    have := List.pairwise_iff_getElem.1 hu (nx l k) (nx l k + (i + 1)) hlt hl (by omega)
    subst he
    exact lessK_trans h0 this
theorem ow_split {d : Pc} {l : List Pc} {k : ByteArray} (hu : Up l) : ow d l k = (l.take (nx l k)).getLast?.getD d := by
  conv => lhs; rw [← List.take_append_drop (nx l k) l]
  rw [ow_append, ow_none (nx_drop hu)]
  have h := nx_take (l := l) (k := k)
  generalize l.take (nx l k) = a at *
  induction a generalizing d with
  | nil => rfl
  | cons x t ih =>
    rw [ow_cons, h x (by simp)]
    show ow x t k = _
    rw [ih (fun y hy => h y (by simp [hy]))]
    cases t with
    | nil => rfl
    | cons y r => simp [List.getLast?_eq_some_getLast]
def pl (l : List Pc) (k : ByteArray) : Nat := nx l k - 1
theorem pl_lt {l : List Pc} (h : Ok l) (k : ByteArray) : pl l k < l.length := by
  have := nx_pos h k
  have := nx_le l k
  unfold pl
  omega
theorem pl_get {l : List Pc} (h : Ok l) (k : ByteArray) : l[pl l k]? = some (ow pc0 l k) := by
  rw [ow_split h.up, List.getLast?_eq_getElem?, List.length_take]
  have h1 := nx_pos h k
  have h2 := nx_le l k
  rw [Nat.min_eq_left h2, List.getElem?_take, if_pos (by omega)]
  have h3 := List.getElem?_eq_getElem (pl_lt h k)
  unfold pl at h3 ⊢
  rw [h3]
  rfl

/- ### a range's pieces -/
def begB (l : List Pc) : Nat → Bool
  | 0 => decide ((l.getD 0 pc0).fr.size = 0)
  | i + 1 => lessK (l.getD i pc0).fr (l.getD (i + 1) pc0).fr
theorem begB_zero (l : List Pc) : begB l 0 = decide ((l.getD 0 pc0).fr.size = 0) := rfl
theorem begB_succ (l : List Pc) (i : Nat) : begB l (i + 1) = lessK (l.getD i pc0).fr (l.getD (i + 1) pc0).fr := rfl
def okAt (l : List Pc) (i : Nat) : Bool := fitB (l.getD i pc0) && begB l i
def firstBad (l : List Pc) : Option Nat := (List.range l.length).find? fun i => !okAt l i
def ofErr (l : List Pc) : Option (Int × Int) := if l.length = 0 then some (1, 0) else if 32 < l.length then some (71, l.length) else (firstBad l).map fun i => (1, (i : Int))
theorem firstBad_some {l : List Pc} {j : Nat} (hj : j < l.length) (hb : okAt l j = false) (h : ∀ i, i < j → okAt l i = true) : firstBad l = some j := by
  unfold firstBad
  rw [List.find?_range_eq_some]
  refine ⟨by rw [hb]; rfl, by simpa using hj, fun i hi => by rw [h i hi]; rfl⟩
theorem firstBad_none {l : List Pc} (h : ∀ i, i < l.length → okAt l i = true) : firstBad l = none := by
  unfold firstBad
  rw [List.find?_range_eq_none]
  intro i hi
  rw [h i (by simpa using hi)]
  rfl
theorem up_of_adj : ∀ {l : List Pc}, (∀ i x y, l[i]? = some x → l[i + 1]? = some y → lessK x.fr y.fr = true) → Up l
  | [], _ => List.Pairwise.nil
  | [_], _ => List.pairwise_singleton _ _
  | a :: b :: t, h => by
    have ih : Up (b :: t) := up_of_adj (fun i x y h1 h2 => h (i + 1) x y (by simpa using h1) (by simpa using h2))
    have hab := h 0 a b rfl rfl
    refine List.pairwise_cons.2 ⟨fun x hx => ?_, ih⟩
    rcases List.mem_cons.1 hx with rfl | hx
    · exact hab
    · exact lessK_trans hab ((List.pairwise_cons.1 ih).1 x hx)
theorem getD_of {l : List Pc} {i : Nat} {x : Pc} (h : l[i]? = some x) : l.getD i pc0 = x := by rw [List.getD_eq_getElem?_getD, h]; rfl
theorem ok_of_err {l : List Pc} (h0 : l.length ≠ 0) (h32 : l.length ≤ 32) (h : ∀ i, i < l.length → okAt l i = true) : Ok l := by
  have hh : ∀ i x, l[i]? = some x → fitB x = true ∧ begB l i = true := fun i x hx => by
    have := h i (List.getElem?_eq_some_iff.1 hx).1
    unfold okAt at this
    rw [getD_of hx, Bool.and_eq_true] at this
    exact this
  refine ⟨fun e => by rw [e] at h0; exact h0 rfl, fun o ho => ?_, up_of_adj fun i x y hx hy => ?_, fun x hx => ?_, h32⟩
  · have := (hh 0 o ho).2
    unfold begB at this
    rw [getD_of ho] at this
    exact size_empty (by simpa using this)
  · have := (hh (i + 1) y hy).2
    rw [begB_succ, getD_of hx, getD_of hy] at this
    exact this
  · obtain ⟨i, hi⟩ := List.mem_iff_getElem?.1 hx
    exact (hh i x hi).1
theorem Ok.at {l : List Pc} (h : Ok l) : ∀ i, i < l.length → okAt l i = true := fun i hi => by
  have hx := List.getElem?_eq_getElem hi
  unfold okAt
  rw [getD_of hx, h.fit _ (List.mem_of_getElem? hx), Bool.true_and]
  cases i with
  | zero =>
    unfold begB
    rw [getD_of hx, h.fst _ hx]
    rfl
  | succ i =>
    have hy := List.getElem?_eq_getElem (show i < l.length by omega)
    rw [begB_succ, getD_of hx, getD_of hy]
    exact List.pairwise_iff_getElem.1 h.up i (i + 1) (by omega) hi (by omega)
theorem ofErr_ok {l : List Pc} (h : Ok l) : ofErr l = none := by
  unfold ofErr
  rw [if_neg (fun e => h.ne (List.length_eq_zero_iff.1 e)), if_neg (by have := h.len; omega), firstBad_none h.at]
  rfl
def pcL (x : Pc) : List Value := [.string x.fr, .int .i64 x.sh, .int .i64 x.ep]
def pcA (x : Pc) : Value := .agg #[.string x.fr, .int .i64 x.sh, .int .i64 x.ep]
theorem pcL_len (x : Pc) : (pcL x).length = 3 := rfl
/-- A list lies at a place: its elements' cells, one behind the other. -/
def Lies {α : Type} (w : World) (a : Option Addr) (c : Nat) (f : α → List Value) (l : List α) : Prop := ∀ (i : Nat) x, l[i]? = some x → ∃ g o, a = some ⟨g, o, none⟩ ∧ g < w.heap.size ∧ ∀ (j : Nat) v, (f x)[j]? = some v → w.cell? ⟨g, o + i * c + j, none⟩ = some v
theorem Lies.below {α : Type} {w w' : World} {a : Option Addr} {c : Nat} {f : α → List Value} {l : List α} (h : Lies w a c f l) (hb : Below w.heap.size w w') : Lies w' a c f l := fun i x hi => by
  obtain ⟨g, o, h1, h2, h3⟩ := h i x hi
  exact ⟨g, o, h1, Nat.lt_of_lt_of_le h2 hb.size, fun j v hj => (hb.cell (p := ⟨g, _, none⟩) h2).trans (h3 j v hj)⟩
/-- A slice of pieces that came from somewhere, wherever what is empty may lie. -/
structure SrcAny (w : World) (a : Option Addr) (cap : Nat) (L : List Pc) : Prop where
  lies : Lies w a 3 pcL L
  nil : a = none → cap = 0
  room : L.length ≤ cap
  max : cap ≤ maxLen
theorem SrcAny.below {w w' : World} {a : Option Addr} {cap : Nat} {L : List Pc} (h : SrcAny w a cap L) (hb : Below w.heap.size w w') : SrcAny w' a cap L := ⟨h.lies.below hb, h.nil, h.room, h.max⟩
def BoolLeft (w : World) (b : Bool) (e : Ending) (w' : World) : Prop := e = .returned (.bool b) ∧ Below w.heap.size w w'

/- ### errors -/
def routeW : ByteArray := ⟨#[114, 111, 117, 116, 101]⟩
def rErr (e at_ : Int) : Value := errOf e [(routeW, at_)]
set_option maxRecDepth 100000 in
theorem of_of (n : Int) (hn : n ≠ 0) (w : World) : Calls Tryz.prog 32 #[.int .i64 n] w fun e w' => e = .returned (errOf n []) ∧ w = w' := by
  have h1 : (n == 0) = false := by simpa using hn
  clear hn
  go_enter Tryz.func32, Tryz.ntmps32
  go_wp2_with fail
  go_ret
  exact ⟨rfl, rfl⟩
set_option maxRecDepth 100000 in
theorem wrap_of (n : Int) (st : List StepT) (s : ByteArray) (a : Int) (w : World) : Calls Tryz.prog 68 #[errOf n st, .string s, .int .i64 a] w fun e w' => e = .returned (errOf n ((s, a) :: st)) ∧ w = w' := by
  rw [show errOf n ((s, a) :: st) = .iface 163 (.agg #[.string s, .int .i64 a, errOf n st]) from rfl]
  obtain ⟨T, v, hE⟩ := errOf_form n st
  rw [hE]
  clear hE
  go_enter Tryz.func68, Tryz.ntmps68
  go_wp2_with fail
  go_ret
  exact ⟨rfl, rfl⟩
set_option maxRecDepth 100000 in
theorem wrong_23 (e a : Int) (hn : e ≠ 0) (w : World) : Calls Tryz.prog 53 #[.int .i64 e, .int .i64 a] w fun r w' => r = .returned (rErr e a) ∧ w = w' := by
  have HO := Lib.hid (of_of e hn)
  have HW : Hid (∀ w, Calls Tryz.prog 68 #[errOf e [], .string ⟨#[114, 111, 117, 116, 101]⟩, .int .i64 a] w fun r w' => r = .returned (rErr e a) ∧ w = w') := fun w => wrap_of e [] routeW a w
  obtain ⟨T, v, hE⟩ := errOf_form e []
  obtain ⟨q, hq⟩ : ∃ q, q = rErr e a := ⟨_, rfl⟩
  rw [← hq] at HW ⊢
  rw [hE] at HO HW
  clear hE hq
  go_enter Tryz.func53, Tryz.ntmps53
  go_wp2_with (first | (go_at_call 32; refine (HO.out _).mono ?_; rintro e w' ⟨rfl, rfl⟩) | (go_at_call 68; refine (HW.out _).mono ?_; rintro e w' ⟨rfl, rfl⟩))
  go_ret
  exact ⟨rfl, rfl⟩

/- ### rows of pieces -/
theorem pc_info : (Tryz.prog.info? 66).map (fun i => (i.zero, i.size, i.bytes)) = some (some (pcA pc0), 3, 32) := by kernel_rfl
theorem flatP_len (L : List Pc) : (L.flatMap pcL).length = L.length * 3 := by
  induction L with
  | nil => rfl
  | cons x L ih => rw [List.flatMap_cons, List.length_append, ih, pcL_len, List.length_cons]; omega
theorem lies_flat {w : World} {g o : Nat} {L : List Pc} (h : Lies w (some ⟨g, o, none⟩) 3 pcL L) {j : Nat} {u : Value} (hj : (L.flatMap pcL)[j]? = some u) : w.cell? ⟨g, o + j, none⟩ = some u := by
  have hl := (List.getElem?_eq_some_iff.1 hj).1
  rw [flatP_len] at hl
  have hi : j / 3 < L.length := by omega
  obtain ⟨g', o', e, _, hc⟩ := h (j / 3) _ (List.getElem?_eq_getElem hi)
  obtain ⟨rfl, rfl⟩ : g = g' ∧ o = o' := by simpa using e
  have e2 : j / 3 * 3 + j % 3 = j := by omega
  have := hc (j % 3) u (by rw [← hj]; conv => rhs; rw [← e2]
                           exact (flat_get pcL 3 pcL_len L (j / 3) (j % 3) _ (List.getElem?_eq_getElem hi) (by omega)).symm)
  rw [Nat.add_assoc, e2] at this
  exact this
theorem one_cells {L : List Pc} : ∀ u ∈ L.flatMap pcL, u.oneCell' = true := by
  intro u hu
  obtain ⟨e, _, h⟩ := List.mem_flatMap.1 hu
  simp only [pcL, List.mem_cons, List.not_mem_nil, or_false] at h
  rcases h with rfl | rfl | rfl <;> rfl
/-- 'append' of pieces that lie somewhere, onto a row of the call's own. -/
theorem append_src {w : World} {ops : Array Oper} {rest : List Oper} {o : Oper} {a : Act} {Q : Exit → Act → World → Prop} (hgd : o.guard = none) (s x : Operand) 
    (ho : o.op = .call { callee := .builtin .append, args := #[s, x], argTypes := #[59, 59] })
    (base : Nat) (v : Value) (R M : List Pc) (hs : a.eval s = v) (hown : w.ownsRow base 66 3 v R.length (R.flatMap pcL)) (ax : Option Addr) (c : Nat) (hx : a.eval x = .slice ax M.length c) (hsrc : SrcAny w ax c M) (hR : R.length ≤ 100000) (hM : M.length ≤ 100000) (hbase : base ≤ w.heap.size)
    (h : ∀ v' w', w'.ownsRow base 66 3 v' (R ++ M).length ((R ++ M).flatMap pcL) → w.grownBy w' v.ownBlock → wpList Tryz.prog ops Q rest (a.put o.dst v') w') : wpList Tryz.prog ops Q (o :: rest) a w := by
  obtain ⟨i0, hi0, hz0, hz1, hz2⟩ := info_parts pc_info
  cases ax with
  | none =>
    obtain rfl := hsrc.nil rfl
    have hM0 : M = [] := by
      cases M with
      | nil => rfl
      | cons y M => obtain ⟨g, o, h1, _⟩ := hsrc.lies 0 y rfl; cases h1
    subst hM0
    refine wpList_append_own_none hgd s x 59 ho base 66 i0 3 Tryz.underlying59 hi0 v R.length _ hs hown hx ?_
    exact h v w (by simpa using hown) (World.grownBy.refl w _)
  | some ad =>
    refine wpList_append_own w hgd s x 59 ho base 66 i0 (pcA pc0) 3 32 Tryz.underlying59 hi0 hz0 hz1 hz2 rfl (by decide) v R.length _ hs hown ad M.length c (M.flatMap pcL) hx (flatP_len M) (fun j u hj => ?_) one_cells (by unfold maxLen; omega) (by omega) hbase (fun v' w' h2 h3 _ => ?_)
    · have hpos : 0 < M.length := by
        have := (List.getElem?_eq_some_iff.1 hj).1
        rw [flatP_len] at this
        omega
      obtain ⟨g, o', he, _⟩ := hsrc.lies 0 _ (List.getElem?_eq_getElem hpos)
      obtain rfl : ad = ⟨g, o', none⟩ := Option.some.inj he
      rw [Addr.add_lit]
      exact lies_flat hsrc.lies hj
    · exact h v' w' (by simpa using h2) h3
/-- A row of a call's own, of pieces. -/
def RowLeft (w : World) (R : List Pc) (e : Ending) (w' : World) : Prop := ∃ v, e = .returned v ∧ w'.ownsRow w.heap.size 66 3 v R.length (R.flatMap pcL) ∧ Below w.heap.size w w'
theorem src_one {w : World} {H : Nat} {x : Pc} (h : w.heap[H]? = some (.cells #[.string x.fr, .int .i64 x.sh, .int .i64 x.ep] 66 (0, 0))) : SrcAny w (some ⟨H, 0, none⟩) 1 [x] :=
  ⟨fun i y hi => by
    match i, hi with
    | 0, hi =>
      obtain rfl : x = y := by simpa using hi
      refine ⟨H, 0, rfl, lt_of_heap h, fun j v hj => ?_⟩
      rw [cell_of_row _ _ _ _ _ _ h]
      simp only [Nat.zero_mul, Nat.zero_add]
      simpa [pcL] using hj
    | i + 1, hi => simp at hi, (fun h => by cases h), by simp, by unfold maxLen; omega⟩
theorem row_src {w : World} {base n cap : Nat} {a : Option Addr} {L : List Pc} (h : w.ownsRow base 66 3 (.slice a n cap) n (L.flatMap pcL)) (hn : n = L.length) : SrcAny w a cap L := by
  subst hn
  refine ⟨fun i x hi => ?_, fun h0 => ?_, ?_, ?_⟩
  · have hlt := (List.getElem?_eq_some_iff.1 hi).1
    obtain ⟨g, rfl, h1, h2⟩ := row_pos h (by omega)
    refine ⟨g, 0, rfl, h2, fun j v hj => ?_⟩
    have hj3 : j < 3 := (List.getElem?_eq_some_iff.1 hj).1
    rw [Nat.zero_add, row_cell h pcL_len rfl hi hj3, hj]
  · subst h0
    rcases h.2 with ⟨h1, _⟩ | ⟨g, c, cur, h1, _⟩
    · injection h1
    · injection h1 with h2; cases h2
  · rcases h.2 with ⟨h1, _⟩ | ⟨g, c, cur, h1, _, _, h4, _⟩
    · injection h1 with _ h2 h3; omega
    · injection h1 with _ _ h3; omega
  · rcases h.2 with ⟨h1, _⟩ | ⟨g, c, cur, h1, _, _, _, h5, _⟩
    · injection h1 with _ h2 h3; rw [h3]; exact Nat.zero_le _
    · injection h1 with _ _ h3; rw [h3]; exact h5
set_option maxRecDepth 100000 in
theorem clone_26 (a : Option Addr) (cap : Nat) (L : List Pc) (w : World) (h : SrcAny w a cap L) (hl : L.length ≤ 1000) : Calls Tryz.prog 56 #[.slice a L.length cap] w (RowLeft w L) := by
  have H := Lib.hid h
  cases a with
  | none =>
    obtain rfl := h.nil rfl
    have hL : L = [] := List.length_eq_zero_iff.1 (by have := h.room; omega)
    subst hL
    clear h hl
    have hs := fun (W : World) (a : Option Addr) (n c : Nat) => Lib.run_eql_slice_nil (P := Tryz.prog) W 59 66 a n c 0 0 Tryz.underlying59
    go_enter Tryz.func56, Tryz.ntmps56
    go_wp2_with fail
    go_ret
    exact ⟨_, rfl, World.ownsRow_nil _ _ _ _, Below.refl _ _⟩
  | some ad =>
    have HR : Hid ((w.alloc (.cells #[] 66)).ownsRow w.heap.size 66 3 (.slice (some ⟨w.heap.size, 0, none⟩) 0 0) ([] : List Pc).length (([] : List Pc).flatMap pcL)) := World.ownsRow_lit w _ 0 (Nat.le_refl _) (Nat.zero_le _) (by rfl)
    have HB : Hid (Below w.heap.size w (w.alloc (.cells #[] 66))) := (Below.refl _ w).alloc (Nat.le_refl _) _
    have hl9 := hl
    clear h hl
    have hs := fun (W : World) (a : Option Addr) (n c : Nat) => Lib.run_eql_slice_nil (P := Tryz.prog) W 59 66 a n c 0 0 Tryz.underlying59
    go_enter Tryz.func56, Tryz.ntmps56
    go_wp2_with (at_builtin; refine append_src rfl _ _ rfl w.heap.size _ [] L rfl HR.out (some ad) cap rfl (H.out.below HB.out) (by simp) (by omega) HB.out.size ?_)
    intro v' w3 hown hgrow
    have hb3 : Below w.heap.size w w3 := HB.out.trans ((Wrote.of_grown hgrow).below HB.out.size fun g hg' => by
      simp only [Option.mem_toList] at hg'
      exact (row_block HR.out hg').1)
    have HO := Lib.hid hown
    have HB3 := Lib.hid hb3
    clear hown hgrow hb3
    go_wp2_with fail
    go_ret
    exact ⟨_, rfl, HO.out, HB3.out⟩

/- ### the first one that is so -/
def idx (l : List Pc) (p : Pc → Bool) : Int := if l.findIdx p < l.length then (l.findIdx p : Int) else -1
theorem idx_hit {l : List Pc} {p : Pc → Bool} {j : Nat} {r : Pc} (hr : l[j]? = some r) (hp : p r = true) (h0 : (l.take j).any p = false) : idx l p = j := by
  obtain ⟨hj, hx⟩ := List.getElem?_eq_some_iff.1 hr
  have h1 : l.findIdx p = j := by
    refine (List.findIdx_eq hj).2 ⟨by rw [hx]; exact hp, fun i hi => ?_⟩
    rw [List.any_eq_false] at h0
    have := h0 (l[i]'(by omega)) (List.mem_iff_getElem?.2 ⟨i, by rw [List.getElem?_take, if_pos hi]; exact List.getElem?_eq_getElem (by omega)⟩)
    simpa using this
  unfold idx
  rw [h1, if_pos hj]
theorem idx_none {l : List Pc} {p : Pc → Bool} (h : l.any p = false) : idx l p = -1 := by
  unfold idx
  rw [List.findIdx_eq_length.2 (fun x hx => by rw [List.any_eq_false] at h; simpa using h x hx), if_neg (by omega)]
theorem any_take {l : List Pc} {p : Pc → Bool} {j : Nat} {r : Pc} (h : l[j]? = some r) : (l.take (j + 1)).any p = ((l.take j).any p || p r) := by
  rw [List.take_add_one, h]
  simp
def IdxLeft (w : World) (z : Int) (e : Ending) (w' : World) : Prop := e = .returned (.int .i64 z) ∧ Below w.heap.size w w'
set_option maxRecDepth 100000 in
set_option maxHeartbeats 1600000 in
theorem index_24_25 (a : Option Addr) (cap : Nat) (l : List Pc) (w : World) (p : Pc → Bool) (ha : Lies w a 3 pcL l) (hl : l.length ≤ 100000)
    (hc : ∀ r W, Below w.heap.size w W → Calls Tryz.prog 55 #[pcA r] W (BoolLeft W (p r))) :
    Calls Tryz.prog 54 #[.slice a l.length cap, .func (.func 55) #[] #[]] w (IdxLeft w (idx l p)) := by
  have HA := Lib.hid ha
  have HC := Lib.hid hc
  obtain ⟨n, hn⟩ : ∃ n, n = l.length := ⟨_, rfl⟩
  have HN := Lib.hid hn
  have hn9 : (n : Int) ≤ 100000 := by omega
  rw [← hn]
  have P0 : Hid (Below w.heap.size w w ∧ (l.take 0).any p = false) := ⟨Below.refl _ _, rfl⟩
  clear ha hc hn hl
  go_enter Tryz.func54, Tryz.ntmps54
  go_wp2_with fail
  go_loopw [8] (fun i wr => ∃ j : Nat, j ≤ n ∧ i = .int .i64 j ∧ Hid (Below w.heap.size w wr ∧ (l.take j).any p = false)) (fun i _ => n - (intOf i).toNat)
  case atStart => exact ⟨0, by omega, rfl, P0⟩
  case round =>
    clear P0
    obtain ⟨j, hj, rfl, HB⟩ := hrel
    by_cases hlt : j < n
    · obtain ⟨r, hr⟩ : ∃ r, l[j]? = some r := ⟨_, List.getElem?_eq_getElem (by rw [← HN.out]; exact hlt)⟩
      obtain ⟨g, o, rfl, hg, hc⟩ := HA.out.below HB.out.1 j r hr
      have d0 : wr.cell? ⟨g, o + j * 3, none⟩ = some (.string r.fr) := hc 0 _ rfl
      have d1 : wr.cell? ⟨g, o + j * 3 + 1, none⟩ = some (.int .i64 r.sh) := hc 1 _ rfl
      have d2 : wr.cell? ⟨g, o + j * 3 + 2, none⟩ = some (.int .i64 r.ep) := hc 2 _ rfl
      have HT := any_take (p := p) hr
      have HCC : Hid (Calls Tryz.prog 55 #[.agg #[.string r.fr, .int .i64 r.sh, .int .i64 r.ep]] wr (BoolLeft wr (p r))) := HC.out r wr HB.out.1
      have HRR := Lib.hid hr
      have hj0 : (0 : Int) ≤ (j : Int) := by omega
      have hj1 : (j : Int) < (n : Int) := by omega
      rw [HB.out.2] at HT
      clear hr hc
      cases hp : p r with
      | true =>
        rw [hp] at HCC
        have HANY : Hid (idx l p = j) := idx_hit HRR.out hp HB.out.2
        clear hp HT
        go_wp2_with fail
        refine HCC.out.mono ?_
        rintro e w1 ⟨rfl, hb1⟩
        have HB1 := Lib.hid (HB.out.1.trans (hb1.mono HB.out.1.size))
        clear hb1
        go_wp2_with fail
        go_ret
        exact ⟨by rw [HANY.out]; rfl, HB1.out⟩
      | false =>
        rw [hp] at HCC HT
        have HTT := Lib.hid HT
        clear hp HT
        go_wp2_with fail
        refine HCC.out.mono ?_
        rintro e w1 ⟨rfl, hb1⟩
        have HB1 : Hid (Below w.heap.size w w1 ∧ (l.take (j + 1)).any p = false) := ⟨HB.out.1.trans (hb1.mono HB.out.1.size), by rw [HTT.out]; rfl⟩
        clear hb1
        go_wp2_with fail
        exact ⟨⟨j + 1, by omega, by simp, HB1⟩, by simp [intOf]; omega⟩
    · obtain rfl : j = n := by omega
      go_wp2_with fail
      go_ret
      have ht := HB.out.2
      rw [List.take_of_length_le (by rw [← HN.out]; exact Nat.le_refl _)] at ht
      exact ⟨by rw [idx_none ht]; rfl, HB.out.1⟩
set_option maxRecDepth 100000 in
set_option maxHeartbeats 1600000 in
theorem index_24_46 (q : Option Addr) (a : Option Addr) (cap : Nat) (l : List Pc) (w : World) (p : Pc → Bool) (ha : Lies w a 3 pcL l) (hl : l.length ≤ 100000)
    (hc : ∀ r W, Below w.heap.size w W → Calls Tryz.prog 94 #[pcA r, .pointer q] W (BoolLeft W (p r))) :
    Calls Tryz.prog 54 #[.slice a l.length cap, .func (.func 94) #[] #[.pointer q]] w (IdxLeft w (idx l p)) := by
  have HA := Lib.hid ha
  have HC := Lib.hid hc
  obtain ⟨n, hn⟩ : ∃ n, n = l.length := ⟨_, rfl⟩
  have HN := Lib.hid hn
  have hn9 : (n : Int) ≤ 100000 := by omega
  rw [← hn]
  have P0 : Hid (Below w.heap.size w w ∧ (l.take 0).any p = false) := ⟨Below.refl _ _, rfl⟩
  clear ha hc hn hl
  go_enter Tryz.func54, Tryz.ntmps54
  go_wp2_with fail
  go_loopw [8] (fun i wr => ∃ j : Nat, j ≤ n ∧ i = .int .i64 j ∧ Hid (Below w.heap.size w wr ∧ (l.take j).any p = false)) (fun i _ => n - (intOf i).toNat)
  case atStart => exact ⟨0, by omega, rfl, P0⟩
  case round =>
    clear P0
    obtain ⟨j, hj, rfl, HB⟩ := hrel
    by_cases hlt : j < n
    · obtain ⟨r, hr⟩ : ∃ r, l[j]? = some r := ⟨_, List.getElem?_eq_getElem (by rw [← HN.out]; exact hlt)⟩
      obtain ⟨g, o, rfl, hg, hc⟩ := HA.out.below HB.out.1 j r hr
      have d0 : wr.cell? ⟨g, o + j * 3, none⟩ = some (.string r.fr) := hc 0 _ rfl
      have d1 : wr.cell? ⟨g, o + j * 3 + 1, none⟩ = some (.int .i64 r.sh) := hc 1 _ rfl
      have d2 : wr.cell? ⟨g, o + j * 3 + 2, none⟩ = some (.int .i64 r.ep) := hc 2 _ rfl
      have HT := any_take (p := p) hr
      have HCC : Hid (Calls Tryz.prog 94 #[.agg #[.string r.fr, .int .i64 r.sh, .int .i64 r.ep], .pointer q] wr (BoolLeft wr (p r))) := HC.out r wr HB.out.1
      have HRR := Lib.hid hr
      have hj0 : (0 : Int) ≤ (j : Int) := by omega
      have hj1 : (j : Int) < (n : Int) := by omega
      rw [HB.out.2] at HT
      clear hr hc
      cases hp : p r with
      | true =>
        rw [hp] at HCC
        have HANY : Hid (idx l p = j) := idx_hit HRR.out hp HB.out.2
        clear hp HT
        go_wp2_with fail
        refine HCC.out.mono ?_
        rintro e w1 ⟨rfl, hb1⟩
        have HB1 := Lib.hid (HB.out.1.trans (hb1.mono HB.out.1.size))
        clear hb1
        go_wp2_with fail
        go_ret
        exact ⟨by rw [HANY.out]; rfl, HB1.out⟩
      | false =>
        rw [hp] at HCC HT
        have HTT := Lib.hid HT
        clear hp HT
        go_wp2_with fail
        refine HCC.out.mono ?_
        rintro e w1 ⟨rfl, hb1⟩
        have HB1 : Hid (Below w.heap.size w w1 ∧ (l.take (j + 1)).any p = false) := ⟨HB.out.1.trans (hb1.mono HB.out.1.size), by rw [HTT.out]; rfl⟩
        clear hb1
        go_wp2_with fail
        exact ⟨⟨j + 1, by omega, by simp, HB1⟩, by simp [intOf]; omega⟩
    · obtain rfl : j = n := by omega
      go_wp2_with fail
      go_ret
      have ht := HB.out.2
      rw [List.take_of_length_le (by rw [← HN.out]; exact Nat.le_refl _)] at ht
      exact ⟨by rw [idx_none ht]; rfl, HB.out.1⟩
set_option maxRecDepth 100000 in
set_option maxHeartbeats 1600000 in
theorem unfit_25 (x : Pc) (w : World) : Calls Tryz.prog 55 #[pcA x] w (BoolLeft w (!fitB x)) := by
  have HB : Hid (Below w.heap.size w (w.alloc (.cells #[.string x.fr, .int .i64 x.sh, .int .i64 x.ep] 66))) := (Below.refl _ w).alloc (Nat.le_refl _) _
  unfold pcA
  have HE : Hid ((!fitB x) = !(decide (x.fr.size ≤ 16) && decide (0 ≤ x.sh) && decide (x.sh < 4) && decide (1 ≤ x.ep) && decide (x.ep ≤ 1099511627776))) := Lib.hid rfl
  obtain ⟨b, hb⟩ : ∃ b, b = !fitB x := ⟨_, rfl⟩
  rw [← hb] at HE ⊢
  clear hb
  by_cases h1 : x.fr.size ≤ 16
  · have e1 : ¬ (16 : Int) < x.fr.size := by omega
    by_cases h2 : 0 ≤ x.sh
    · have e2 : ¬ x.sh < 0 := by omega
      by_cases h3 : x.sh < 4
      · have e3 : ¬ 4 ≤ x.sh := by omega
        by_cases h4 : 1 ≤ x.ep
        · have e4 : ¬ x.ep < 1 := by omega
          have HV : Hid (b = decide (1099511627776 < x.ep)) := Lib.hid (by
            rw [HE.out, decide_eq_true h1, decide_eq_true h2, decide_eq_true h3, decide_eq_true h4]
            by_cases h5 : x.ep ≤ 1099511627776 <;> simp [h5] <;> omega)
          rw [HV.out]
          clear HV HE h1 h2 h3 h4
          go_enter Tryz.func55, Tryz.ntmps55
          go_wp2_with fail
          go_ret
          exact ⟨rfl, HB.out⟩
        · have e4 : x.ep < 1 := by omega
          have HV : Hid (b = true) := Lib.hid (by rw [HE.out]; simp [h4])
          rw [HV.out]
          clear HV HE h1 h2 h3 h4
          go_enter Tryz.func55, Tryz.ntmps55
          go_wp2_with fail
          go_ret
          exact ⟨rfl, HB.out⟩
      · have e3 : 4 ≤ x.sh := by omega
        have HV : Hid (b = true) := Lib.hid (by rw [HE.out]; simp [h3])
        rw [HV.out]
        clear HV HE h1 h2 h3
        go_enter Tryz.func55, Tryz.ntmps55
        go_wp2_with fail
        go_ret
        exact ⟨rfl, HB.out⟩
    · have e2 : x.sh < 0 := by omega
      have HV : Hid (b = true) := Lib.hid (by rw [HE.out]; simp [h2])
      rw [HV.out]
      clear HV HE h1 h2
      go_enter Tryz.func55, Tryz.ntmps55
      go_wp2_with fail
      go_ret
      exact ⟨rfl, HB.out⟩
  · have e1 : (16 : Int) < x.fr.size := by omega
    have HV : Hid (b = true) := Lib.hid (by rw [HE.out]; simp [h1])
    rw [HV.out]
    clear HV HE h1
    go_enter Tryz.func55, Tryz.ntmps55
    go_wp2_with fail
    go_ret
    exact ⟨rfl, HB.out⟩
set_option maxRecDepth 100000 in
theorem behind_46 (x : Pc) (k : ByteArray) (kb : Nat) (w : World) (hk : w.heap[kb]? = some (.cells #[.string k] 9 (0, 0))) :
    Calls Tryz.prog 94 #[pcA x, .pointer (some ⟨kb, 0, none⟩)] w (BoolLeft w (lessK k x.fr)) := by
  have HB : Hid (Below w.heap.size w (w.alloc (.cells #[.string x.fr, .int .i64 x.sh, .int .i64 x.ep] 66))) := (Below.refl _ w).alloc (Nat.le_refl _) _
  have q : w.cell? ⟨kb, 0, none⟩ = some (.string k) := by rw [cell_of_row _ _ _ _ _ _ hk]; rfl
  have lk := lt_of_heap hk
  have HE := Lib.hid (gtK x.fr k)
  unfold pcA
  clear hk
  go_enter Tryz.func94, Tryz.ntmps94
  go_wp2_with fail
  go_ret
  exact ⟨by rw [← HE.out]; rfl, HB.out⟩
/- ### a route -/
structure RtAt (w : World) (r : Nat) (a : Option Addr) (cap : Nat) (l : List Pc) : Prop where
  cell : w.heap[r]? = some (.cells #[.slice a l.length cap] 111 (0, 0))
  src : SrcAny w a cap l
  ok : Ok l
theorem RtAt.below {w w' : World} {r : Nat} {a : Option Addr} {cap : Nat} {l : List Pc} (h : RtAt w r a cap l) (hb : Below w.heap.size w w') : RtAt w' r a cap l :=
  ⟨(hb.block _ (lt_of_heap h.cell)).trans h.cell, h.src.below hb, h.ok⟩
theorem RtAt.c0 {w : World} {r : Nat} {a : Option Addr} {cap : Nat} {l : List Pc} (h : RtAt w r a cap l) : w.cell? ⟨r, 0, none⟩ = some (.slice a l.length cap) := by
  rw [cell_of_row _ _ _ _ _ _ h.cell]; rfl
set_option maxRecDepth 100000 in
set_option maxHeartbeats 1600000 in
theorem place_34 (r : Nat) (a : Option Addr) (cap : Nat) (l : List Pc) (k : ByteArray) (w : World) (h : RtAt w r a cap l) :
    Calls Tryz.prog 59 #[.pointer (some ⟨r, 0, none⟩), .string k] w (IdxLeft w (pl l k : Nat)) := by
  obtain ⟨W1, hW1⟩ : ∃ W1, W1 = w.alloc (.cells #[.string k] 9) := ⟨_, rfl⟩
  have hb1 : Below w.heap.size w W1 := by rw [hW1]; exact (Below.refl _ w).alloc (Nat.le_refl _) _
  have hk : W1.heap[w.heap.size]? = some (.cells #[.string k] 9 (0, 0)) := by rw [hW1]; exact heap_alloc_new w _
  have HC := Lib.hid (index_24_46 (some ⟨w.heap.size, 0, none⟩) a cap l W1 (fun x => lessK k x.fr) (h.src.lies.below hb1) (by have := h.ok.len; omega)
    (fun x W hb => behind_46 x k _ W ((hb.block _ (lt_of_heap hk)).trans hk)))
  have c0 := h.c0
  have lr := lt_of_heap h.cell
  have HB1 := Lib.hid hb1
  have hp := nx_pos h.ok k
  have hle := nx_le l k
  have hlen := h.ok.len
  obtain ⟨p, hp2⟩ : ∃ p, p = pl l k := ⟨_, rfl⟩
  have hp3 : p + 1 = nx l k := by rw [hp2]; unfold pl; omega
  rw [← hp2]
  obtain ⟨z, hz⟩ : ∃ z, z = idx l fun x => lessK k x.fr := ⟨_, rfl⟩
  rw [← hz] at HC
  obtain ⟨n, hn⟩ : ∃ n, n = l.length := ⟨_, rfl⟩
  obtain ⟨q, hq⟩ : ∃ q, q = nx l k := ⟨_, rfl⟩
  have e1 : IntKind.i64.wrap ((q : Int) - 1) = (p : Int) := by
    rw [IntWalk.i64_in _ (by omega)]; omega
  rw [← hn] at HC c0 hle hlen
  rw [← hq] at hle hp hp3
  have hz2 : z = if q < n then (q : Int) else -1 := by rw [hz, hq, hn]; rfl
  by_cases hlt : q < n
  · rw [if_pos hlt] at hz2
    subst hz2
    have hz0 : ¬ (q : Int) < 0 := by omega
    clear h hb1 hk hp2 hz hn hq hp hle hlen hp3
    go_enter Tryz.func59, Tryz.ntmps59
    go_wp2_with fail
    rw [← hW1]
    refine HC.out.mono ?_
    rintro e w2 ⟨rfl, hb2⟩
    have HB2 := Lib.hid (HB1.out.trans (hb2.mono HB1.out.size))
    clear hb2
    go_wp2_with fail
    go_ret
    exact ⟨rfl, HB2.out⟩
  · rw [if_neg hlt] at hz2
    subst hz2
    obtain rfl : q = n := by omega
    clear h hb1 hk hp2 hz hn hq hp hle hlen hp3
    go_enter Tryz.func59, Tryz.ntmps59
    go_wp2_with fail
    rw [← hW1]
    refine HC.out.mono ?_
    rintro e w2 ⟨rfl, hb2⟩
    have HB2 := Lib.hid (HB1.out.trans (hb2.mono HB1.out.size))
    have c1 := (HB2.out.cell (p := ⟨r, 0, none⟩) lr).trans c0
    have lr1 := Nat.lt_of_lt_of_le lr HB2.out.size
    clear hb2
    go_wp2_with fail
    go_ret
    exact ⟨rfl, HB2.out⟩
def PcLeft (w : World) (x : Pc) (e : Ending) (w' : World) : Prop := e = .returned (pcA x) ∧ Below w.heap.size w w'
set_option maxRecDepth 100000 in
set_option maxHeartbeats 1600000 in
theorem owner_12 (r : Nat) (a : Option Addr) (cap : Nat) (l : List Pc) (k : ByteArray) (w : World) (h : RtAt w r a cap l) :
    Calls Tryz.prog 24 #[.pointer (some ⟨r, 0, none⟩), .string k] w (PcLeft w (ow pc0 l k)) := by
  obtain ⟨W0, hW0⟩ : ∃ W0, W0 = w.alloc (.cells #[.string ⟨#[]⟩, .int .i64 0, .int .i64 0] 66) := ⟨_, rfl⟩
  have hb0 : Below w.heap.size w W0 := by rw [hW0]; exact (Below.refl _ w).alloc (Nat.le_refl _) _
  have hr0 : W0.heap[w.heap.size]? = some (.cells #[.string ⟨#[]⟩, .int .i64 0, .int .i64 0] 66 (0, 0)) := by rw [hW0]; exact heap_alloc_new w _
  have HB0 := Lib.hid hb0
  have H := Lib.hid h
  have hl0 := lt_of_heap hr0
  have HR : Hid (∀ X : Later W0, X.1.heap[w.heap.size]? = some (.cells #[.string ⟨#[]⟩, .int .i64 0, .int .i64 0] 66 (0, 0)) ∧ Below w.heap.size w X.1) := fun X => ⟨(X.2.block _ hl0).trans hr0, hb0.trans (X.2.mono hb0.size)⟩
  obtain ⟨n, hn⟩ : ∃ n, n = l.length := ⟨_, rfl⟩
  obtain ⟨x, hx⟩ : ∃ x, x = ow pc0 l k := ⟨_, rfl⟩
  obtain ⟨j, hj⟩ : ∃ j, j = pl l k := ⟨_, rfl⟩
  have hg := pl_get h.ok k
  have hjn := pl_lt h.ok k
  have hlen := h.ok.len
  rw [← hj, ← hx] at hg
  rw [← hj, ← hn] at hjn
  obtain ⟨g, o, rfl, hgl, hc⟩ := h.src.lies j x hg
  have c0 : ∀ X : Later W0, X.1.cell? ⟨r, 0, none⟩ = some (.slice (some ⟨g, o, none⟩) n cap) := fun X => by rw [hn]; exact (H.out.below (HR.out X).2).c0
  have HX : Hid (∀ X : Later W0, X.1.cell? ⟨g, o + j * 3, none⟩ = some (.string x.fr) ∧ X.1.cell? ⟨g, o + j * 3 + 1, none⟩ = some (.int .i64 x.sh) ∧ X.1.cell? ⟨g, o + j * 3 + 2, none⟩ = some (.int .i64 x.ep)) := fun X =>
    ⟨((HR.out X).2.cell (p := ⟨g, _, none⟩) hgl).trans (hc 0 _ rfl), ((HR.out X).2.cell (p := ⟨g, _, none⟩) hgl).trans (hc 1 _ rfl), ((HR.out X).2.cell (p := ⟨g, _, none⟩) hgl).trans (hc 2 _ rfl)⟩
  have HQ : Hid (∀ X : Later W0, Calls Tryz.prog 59 #[.pointer (some ⟨r, 0, none⟩), .string k] X.1 fun e w' => e = .returned (.int .i64 (j : Int)) ∧ ∃ Y : Later W0, w' = Y.1) := fun X => later_call (by rw [hj]; exact place_34 r _ cap l k X.1 (H.out.below (HR.out X).2))
  have hj1 : (j : Int) < (n : Int) := by omega
  have hj0 : (0 : Int) ≤ (j : Int) := by omega
  rw [← hx]
  clear h hn hx hj hg hjn hlen hc hb0 hr0
  go_enter Tryz.func24, Tryz.ntmps24
  go_wp2_with fail
  rw [← hW0]
  clear hW0
  have here := Later.here W0
  refine wp_region_then 7 (by kernel_rfl) (by kernel_rfl) ?_
  simp only [List.take_succ_cons, List.take_zero, List.drop_succ_cons, List.drop_zero]
  iterate 7 (with_reducible refine wpQuiet_step (fun K hK => ?_); go_simp; first | (refine hK _ ?_; clear hK K) | (apply Exists.intro; refine ⟨fun _ => ?_, hK _ ?_⟩; (go_at_call 59; with_reducible exact HQ.out _); clear hK K))
  with_reducible refine wpQuiet_nil ?_
  intro X
  obtain ⟨d0, d1, d2⟩ := HX.out X
  obtain ⟨hrb, hb⟩ := HR.out X
  have r0 : X.1.cell? ⟨w.heap.size, 0, none⟩ = some (.string ⟨#[]⟩) := by rw [cell_of_row _ _ _ _ _ _ hrb]; rfl
  have r1 : X.1.cell? ⟨w.heap.size, 1, none⟩ = some (.int .i64 0) := by rw [cell_of_row _ _ _ _ _ _ hrb]; rfl
  have r2 : X.1.cell? ⟨w.heap.size, 2, none⟩ = some (.int .i64 0) := by rw [cell_of_row _ _ _ _ _ _ hrb]; rfl
  have fz : ∀ i, X.1.frozen? ⟨w.heap.size, i, none⟩ = false := fun i => by simp [World.frozen?, hrb]
  have hrl := lt_of_heap hrb
  have HBX := Lib.hid hb
  clear hrb hb
  go_wp2_with fail
  refine bodyPost_ret (v := .agg #[.string x.fr, .int .i64 x.sh, .int .i64 x.ep]) (by simp [results, Tryz.results24, go_sem, r0, r1, r2]) rfl ⟨rfl, ?_⟩
  have hb := HBX.out
  go_grown
/-- What Of answers: a route of its own, or an error. -/
def OfLeft (w : World) (l : List Pc) (e : Ending) (w' : World) : Prop :=
  Below w.heap.size w w' ∧ ((ofErr l = none ∧ ∃ r a cap, e = .returned (.tuple #[.pointer (some ⟨r, 0, none⟩), .nilIface]) ∧ w.heap.size ≤ r ∧ RtAt w' r a cap l) ∨ (∃ q, ofErr l = some q ∧ e = .returned (.tuple #[.pointer none, rErr q.1 q.2])))
theorem okAt_idx {l : List Pc} {j : Nat} {x : Pc} (hx : l[j]? = some x) (h : ∀ i, i < j → okAt l i = true) : (fitB x = false → idx l (fun x => !fitB x) = j) ∧ (fitB x = true → idx l (fun x => !fitB x) ≠ j) := by
  constructor
  · intro hf
    refine idx_hit hx (by simp [hf]) ?_
    rw [List.any_eq_false]
    intro y hy
    obtain ⟨i, hi⟩ := List.mem_iff_getElem?.1 hy
    rw [List.getElem?_take] at hi
    split at hi
    · rename_i hij
      have := h i hij
      unfold okAt at this
      rw [getD_of hi, Bool.and_eq_true] at this
      simp [this.1]
    · cases hi
  · intro hf h2
    unfold idx at h2
    split at h2
    · rename_i hlt
      have hj2 : l.findIdx (fun x => !fitB x) = j := by omega
      have := List.findIdx_getElem (p := fun x : Pc => !fitB x) (w := hlt)
      have hx2 := (List.getElem?_eq_some_iff.1 hx)
      obtain ⟨h5, h6⟩ := hx2
      have h7 : l[l.findIdx (fun x => !fitB x)]'hlt = x := by simp only [hj2, h6]
      rw [h7, hf] at this
      cases this
    · omega
set_option maxRecDepth 100000 in
set_option maxHeartbeats 6400000 in
theorem of_10 (a : Option Addr) (cap : Nat) (l : List Pc) (w : World) (h : SrcAny w a cap l) (hl : (l.length : Int) ≤ 70368744177664) : Calls Tryz.prog 22 #[.slice a l.length cap] w (OfLeft w l) := by
  have H := Lib.hid h
  obtain ⟨n, hn⟩ : ∃ n, n = l.length := ⟨_, rfl⟩
  have HN := Lib.hid hn
  rw [← hn] at hl ⊢
  by_cases h0 : n = 0
  · have HE : Hid (ofErr l = some (1, 0)) := by
      show _ = _
      unfold ofErr
      rw [if_pos (by omega)]
    have HW := Lib.hid (wrong_23 1 0 (by decide))
    subst h0
    clear h hn
    go_enter Tryz.func22, Tryz.ntmps22
    go_wp2_with (go_at_call 53; refine (HW.out _).mono ?_; rintro e w2 ⟨rfl, rfl⟩)
    go_ret2
    exact ⟨Below.refl _ _, .inr ⟨(1, 0), HE.out, rfl⟩⟩
  by_cases h32 : 32 < n
  · have HE : Hid (ofErr l = some (71, (n : Int))) := by
      show _ = _
      unfold ofErr
      rw [if_neg (by omega), if_pos (by omega), ← hn]
    have HW := Lib.hid (wrong_23 71 (n : Int) (by decide))
    have h1 : (32 : Int) < (n : Int) := by omega
    clear h hn
    go_enter Tryz.func22, Tryz.ntmps22
    go_wp2_with (go_at_call 53; refine (HW.out _).mono ?_; rintro e w2 ⟨rfl, rfl⟩)
    go_ret2
    exact ⟨Below.refl _ _, .inr ⟨(71, (n : Int)), HE.out, rfl⟩⟩
  · have h1 : ¬ (32 : Int) < (n : Int) := by omega
    have HI := Lib.hid (index_24_25 a cap l w (fun x => !fitB x) h.lies (by omega) (fun x W _ => unfit_25 x W))
    obtain ⟨z, hz⟩ : ∃ z, z = idx l (fun x => !fitB x) := ⟨_, rfl⟩
    have HZ : Hid (∀ j x, l[j]? = some x → (∀ i, i < j → okAt l i = true) → (fitB x = false → z = j) ∧ (fitB x = true → z ≠ j)) := fun j x hx hi => by rw [hz]; exact okAt_idx hx hi
    rw [← hz, ← hn] at HI
    have HER : Hid (∀ j, j < n → okAt l j = false → (∀ i, i < j → okAt l i = true) → ofErr l = some (1, (j : Int))) := fun j hj hb hi => by
      unfold ofErr
      rw [if_neg (by omega), if_neg (by omega), firstBad_some (by omega) hb hi]
      rfl
    have HOK : Hid ((∀ i, i < n → okAt l i = true) → Ok l) := fun hi => ok_of_err (by omega) (by omega) (fun i h => hi i (by omega))
    have HWA := Lib.hid (wrong_23 1)
    clear hz hn h
    go_enter Tryz.func22, Tryz.ntmps22
    go_wp2_with fail
    refine HI.out.mono ?_
    rintro e w1 ⟨rfl, hb1⟩
    have P0 : Hid (Below w.heap.size w w1 ∧ ∀ i, i < 0 → okAt l i = true) := ⟨hb1, fun i h => by omega⟩
    clear hb1
    go_wp2_with fail
    go_loopw [24] (fun i wr => ∃ j : Nat, j ≤ n ∧ i = .int .i64 j ∧ Hid (Below w.heap.size w wr ∧ ∀ i, i < j → okAt l i = true)) (fun i _ => n - (intOf i).toNat)
    case atStart => exact ⟨0, by omega, rfl, P0⟩
    case round =>
      clear P0
      obtain ⟨j, hj, rfl, HB⟩ := hrel
      by_cases hlt : j < n
      · obtain ⟨x, hx⟩ : ∃ x, l[j]? = some x := ⟨_, List.getElem?_eq_getElem (by rw [← HN.out]; exact hlt)⟩
        obtain ⟨g, o, rfl, hg, hc⟩ := H.out.lies.below HB.out.1 j x hx
        have d0 : wr.cell? ⟨g, o + j * 3, none⟩ = some (.string x.fr) := hc 0 _ rfl
        have d1 : wr.cell? ⟨g, o + j * 3 + 1, none⟩ = some (.int .i64 x.sh) := hc 1 _ rfl
        have d2 : wr.cell? ⟨g, o + j * 3 + 2, none⟩ = some (.int .i64 x.ep) := hc 2 _ rfl
        have HX := Lib.hid hx
        obtain ⟨hz1, hz2⟩ := HZ.out j x hx HB.out.2
        have hj0 : (0 : Int) ≤ (j : Int) := by omega
        have hj1 : (j : Int) < (n : Int) := by omega
        obtain ⟨W1, hW1⟩ : ∃ W1, W1 = wr.alloc (.cells #[.string x.fr, .int .i64 x.sh, .int .i64 x.ep] 66) := ⟨_, rfl⟩
        have HB1 : Hid (Below wr.heap.size wr W1) := by show Below _ _ _; rw [hW1]; exact (Below.refl _ wr).alloc (Nat.le_refl _) _
        have HX1 : Hid (W1.heap[wr.heap.size]? = some (.cells #[.string x.fr, .int .i64 x.sh, .int .i64 x.ep] 66 (0, 0))) := by show _ = _; rw [hW1]; exact heap_alloc_new wr _
        have HBW1 : Hid (Below w.heap.size w W1) := HB.out.1.trans (HB1.out.mono HB.out.1.size)
        have HEJ : Hid (okAt l j = false → ofErr l = some (1, (j : Int))) := fun h => HER.out j hlt h HB.out.2
        have HNJ : Hid (okAt l j = true → ∀ q, Hid (Below w.heap.size w (W1.drewN q) ∧ ∀ i, i < j + 1 → okAt l i = true)) := fun h q => ⟨⟨HBW1.out.os, HBW1.out.tape, HBW1.out.output, HBW1.out.size, HBW1.out.block⟩, fun i hi => by
          by_cases e : i = j
          · rw [e]; exact h
          · exact HB.out.2 i (by omega)⟩
        have HBE : Hid (∀ q, Below w.heap.size w (W1.drewN q)) := fun q => ⟨HBW1.out.os, HBW1.out.tape, HBW1.out.output, HBW1.out.size, HBW1.out.block⟩
        have HW : Hid (∀ W, Calls Tryz.prog 53 #[.int .i64 1, .int .i64 (j : Int)] W fun r w' => r = .returned (rErr 1 (j : Int)) ∧ W = w') := HWA.out (j : Int) (by decide)
        have hgx := getD_of hx
        clear hc
        clear HI HOK HER HZ HWA
        rcases Nat.eq_zero_or_pos j with hj00 | hjp
        · subst hj00
          have HOKA : Hid (okAt l 0 = (fitB x && decide (x.fr.size = 0))) := by show _ = _; unfold okAt; rw [begB_zero, hgx]
          simp only [Nat.zero_mul, Nat.add_zero] at d0 d1 d2
          clear hx hgx hj0
          by_cases hs : x.fr.size = 0
          · have HXE := Lib.hid (size_empty hs)
            cases hf : fitB x with
            | false =>
              have hzz := hz1 hf
              have HNO := Lib.hid (HEJ.out (by rw [HOKA.out, hf]; rfl))
              clear HNJ HEJ HOKA hz1 hz2 hf hs
              simp only [Int.natCast_zero] at hzz
              subst hzz
              go_wp2_with fail
              obtain ⟨xb, hxb⟩ : ∃ z, z = wr.heap.size := ⟨_, rfl⟩
              rw [← hW1, ← hxb]
              rw [← hxb] at HX1
              clear hW1 hxb d0 d1 d2 hg
              have lx := lt_of_heap HX1.out
              have x0 : W1.cell? ⟨xb, 0, none⟩ = some (.string ByteArray.empty) := by rw [cell_of_row _ _ _ _ _ _ HX1.out, HXE.out]; rfl
              go_quiet (fail)
              go_wp2_with (go_at_call 53; refine (HW.out _).mono ?_; rintro e w2 ⟨rfl, rfl⟩)
              go_ret2
              exact ⟨HBE.out _, .inr ⟨(1, 0), HNO.out, rfl⟩⟩
            | true =>
              have hzz := hz2 hf
              have HNX := Lib.hid (HNJ.out (by rw [HOKA.out, hf, hs]; rfl))
              clear HNJ HEJ HOKA hz1 hz2 hf hs
              have hzz : ¬ (0 : Int) = z := fun e => hzz e.symm
              go_wp2_with fail
              obtain ⟨xb, hxb⟩ : ∃ z, z = wr.heap.size := ⟨_, rfl⟩
              rw [← hW1, ← hxb]
              rw [← hxb] at HX1
              clear hW1 hxb d0 d1 d2 hg
              have lx := lt_of_heap HX1.out
              have x0 : W1.cell? ⟨xb, 0, none⟩ = some (.string ByteArray.empty) := by rw [cell_of_row _ _ _ _ _ _ HX1.out, HXE.out]; rfl
              go_quiet (fail)
              go_wp2_with fail
              exact ⟨⟨1, by omega, by simp, HNX.out _⟩, by simp [intOf]; omega⟩
          · have hxe := empty_ne hs
            have HNO := Lib.hid (HEJ.out (by rw [HOKA.out]; simp [hs]))
            clear HNJ HEJ HOKA hz1 hz2 hs
            go_wp2_with fail
            obtain ⟨xb, hxb⟩ : ∃ z, z = wr.heap.size := ⟨_, rfl⟩
            rw [← hW1, ← hxb]
            rw [← hxb] at HX1
            clear hW1 hxb d0 d1 d2 hg
            have lx := lt_of_heap HX1.out
            have x0 : W1.cell? ⟨xb, 0, none⟩ = some (.string x.fr) := by rw [cell_of_row _ _ _ _ _ _ HX1.out]; rfl
            go_quiet (fail)
            by_cases hzz : (0 : Int) = z
            · subst hzz
              go_wp2_with (go_at_call 53; refine (HW.out _).mono ?_; rintro e w2 ⟨rfl, rfl⟩)
              go_ret2
              exact ⟨HBE.out _, .inr ⟨(1, 0), HNO.out, rfl⟩⟩
            · go_wp2_with (go_at_call 53; refine (HW.out _).mono ?_; rintro e w2 ⟨rfl, rfl⟩)
              go_ret2
              exact ⟨HBE.out _, .inr ⟨(1, 0), HNO.out, rfl⟩⟩
        · obtain ⟨i, hji⟩ : ∃ i, j = i + 1 := ⟨j - 1, by omega⟩
          obtain ⟨y, hy⟩ : ∃ y, l[i]? = some y := ⟨_, List.getElem?_eq_getElem (by rw [← HN.out]; omega)⟩
          have HOKA : Hid (okAt l j = (fitB x && lessK y.fr x.fr)) := by show _ = _; unfold okAt; rw [hgx, hji, begB_succ, ← hji, hgx, getD_of hy]
          obtain ⟨g', o', hgg, hg', yc⟩ := H.out.lies.below (HBW1.out) i y hy
          obtain ⟨rfl, rfl⟩ : g = g' ∧ o = o' := by simpa using hgg
          have y0 : W1.cell? ⟨g, o + i * 3, none⟩ = some (.string y.fr) := yc 0 _ rfl
          have hsub : IntKind.i64.wrap ((j : Int) - 1) = (i : Int) := by rw [IntKind.wrap_i64]; omega
          have hi0 : (0 : Int) ≤ (i : Int) := by omega
          have hi1 : (i : Int) < (n : Int) := by omega
          have hgt := gtK x.fr y.fr
          have hjp2 : ¬ (j : Int) = 0 := by omega
          have hjp3 : (0 : Int) < (j : Int) := by omega
          clear hx hgx hy yc hgg hji
          cases hf : fitB x with
          | false =>
            have hzz := hz1 hf
            have HNO := Lib.hid (HEJ.out (by rw [HOKA.out, hf]; rfl))
            clear HNJ HEJ HOKA hz1 hz2 hf hgt
            subst hzz
            go_wp2_with fail
            obtain ⟨xb, hxb⟩ : ∃ z, z = wr.heap.size := ⟨_, rfl⟩
            rw [← hW1, ← hxb]
            rw [← hxb] at HX1
            clear hW1 hxb d0 d1 d2 hg
            have lx := lt_of_heap HX1.out
            have x0 : W1.cell? ⟨xb, 0, none⟩ = some (.string x.fr) := by rw [cell_of_row _ _ _ _ _ _ HX1.out]; rfl
            have hjn : decide (0 < j) = true := decide_eq_true hjp
            have hjn0 : ¬ j = 0 := by omega
            go_quiet (fail)
            go_wp2_with (go_at_call 53; refine (HW.out _).mono ?_; rintro e w2 ⟨rfl, rfl⟩)
            go_ret2
            exact ⟨HBE.out _, .inr ⟨(1, (j : Int)), HNO.out, rfl⟩⟩
          | true =>
            have hzz := hz2 hf
            have hzz : ¬ (j : Int) = z := fun e => hzz e.symm
            rw [hf, Bool.true_and] at HOKA
            clear hz1 hz2 hf
            cases hA : Op.bytesLess x.fr.toList y.fr.toList <;> cases hB : x.fr.toList == y.fr.toList
            case false.false =>
              rw [hA, hB] at hgt
              have HNX := Lib.hid (HNJ.out (by rw [HOKA.out, ← hgt]; rfl))
              clear HNJ HEJ HOKA hgt
              go_wp2_with fail
              obtain ⟨xb, hxb⟩ : ∃ z, z = wr.heap.size := ⟨_, rfl⟩
              rw [← hW1, ← hxb]
              rw [← hxb] at HX1
              clear hW1 hxb d0 d1 d2 hg
              have lx := lt_of_heap HX1.out
              have x0 : W1.cell? ⟨xb, 0, none⟩ = some (.string x.fr) := by rw [cell_of_row _ _ _ _ _ _ HX1.out]; rfl
              have hjn : decide (0 < j) = true := decide_eq_true hjp
              have hjn0 : ¬ j = 0 := by omega
              go_quiet (fail)
              go_wp2_with fail
              exact ⟨⟨j + 1, by omega, by simp, HNX.out _⟩, by simp [intOf]; omega⟩
            all_goals
              rw [hA, hB] at hgt
              have HNO := Lib.hid (HEJ.out (by rw [HOKA.out, ← hgt]; rfl))
              clear HNJ HEJ HOKA hgt
              go_wp2_with fail
              obtain ⟨xb, hxb⟩ : ∃ z, z = wr.heap.size := ⟨_, rfl⟩
              rw [← hW1, ← hxb]
              rw [← hxb] at HX1
              clear hW1 hxb d0 d1 d2 hg
              have lx := lt_of_heap HX1.out
              have x0 : W1.cell? ⟨xb, 0, none⟩ = some (.string x.fr) := by rw [cell_of_row _ _ _ _ _ _ HX1.out]; rfl
              have hjn : decide (0 < j) = true := decide_eq_true hjp
              have hjn0 : ¬ j = 0 := by omega
              go_quiet (fail)
              go_wp2_with (go_at_call 53; refine (HW.out _).mono ?_; rintro e w2 ⟨rfl, rfl⟩)
              go_ret2
              exact ⟨HBE.out _, .inr ⟨(1, (j : Int)), HNO.out, rfl⟩⟩
      · obtain rfl : j = n := by omega
        have HOKL := Lib.hid (HOK.out HB.out.2)
        have HC := Lib.hid (clone_26 a cap l wr (H.out.below HB.out.1) (by have := HN.out; omega))
        have HE := Lib.hid (ofErr_ok HOKL.out)
        rw [← HN.out] at HC
        clear HI HOK HER HZ HWA
        go_wp2_with fail
        refine HC.out.mono ?_
        rintro e w2 ⟨v, rfl, ho, hb⟩
        obtain ⟨a', cap', rfl, _⟩ := row_form ho
        have HS := Lib.hid (row_src ho rfl)
        have HB2 := Lib.hid (HB.out.1.trans (hb.mono HB.out.1.size))
        clear hb ho
        rw [← HN.out]
        go_wp2_with fail
        go_ret2
        refine ⟨HB2.out.alloc HB2.out.size _, .inl ⟨HE.out, w2.heap.size, a', cap', rfl, HB2.out.size, ⟨?_, HS.out.below ((Below.refl _ w2).alloc (Nat.le_refl _) _), HOKL.out⟩⟩⟩
        rw [← HN.out]
        exact heap_alloc_new w2 _
end Go.Proofs.YtaifmfnmgnmgbaaGreatDoor.Route
