/- A store, as plain data: entries by rising keys. and more. -/
import Derived.Test.YtaifmfnmgnmgbaaGreatDoorChecked
import Derived.Test.YtaifmfnmgnmgbaaGreatDoorBase
import Derived.WalkSpells
import Derived.WalkLawsBesides
import Derived.Deep.QuietTactic
import Derived.BigQuiet
import Derived.StillTailTactics
import Derived.Lib.Hide
import Derived.Lib.Bytealg
import Derived.Lib.Strings
import Derived.RegionTactic
import Derived.ChangeAlike
import Derived.BigRegion
import Derived.Handy
/- A store, as plain data: entries by rising keys. -/
namespace Go.Proofs.YtaifmfnmgnmgbaaGreatDoor
open Go.RowKit Go.My

structure Ent where
  key : ByteArray
  value : ByteArray
  ver : Int
def entL (e : Ent) : List Value := [.string e.key, .string e.value, .int .i64 e.ver]
def entA (e : Ent) : Value := .agg #[.string e.key, .string e.value, .int .i64 e.ver]
theorem entL_len (e : Ent) : (entL e).length = 3 := rfl
def ent0 : Ent := ⟨ByteArray.empty, ByteArray.empty, 0⟩
/-- A list lies at a place: its elements' cells, one behind the other. -/
def Lies {α : Type} (w : World) (a : Option Addr) (c : Nat) (f : α → List Value) (l : List α) : Prop := ∀ (i : Nat) x, l[i]? = some x → ∃ g o, a = some ⟨g, o, none⟩ ∧ g < w.heap.size ∧ ∀ (j : Nat) v, (f x)[j]? = some v → w.cell? ⟨g, o + i * c + j, none⟩ = some v
theorem Lies.below {α : Type} {w w' : World} {a : Option Addr} {c : Nat} {f : α → List Value} {l : List α} (h : Lies w a c f l) (hb : Below w.heap.size w w') : Lies w' a c f l := fun i x hi => by
  obtain ⟨g, o, h1, h2, h3⟩ := h i x hi
  exact ⟨g, o, h1, Nat.lt_of_lt_of_le h2 hb.size, fun j v hj => (hb.cell (p := ⟨g, _, none⟩) h2).trans (h3 j v hj)⟩
/-- A slice of entries that came from somewhere. -/
structure SrcAt (w : World) (a : Option Addr) (cap : Nat) (L : List Ent) : Prop where
  lies : Lies w a 3 entL L
  nil : a = none → cap = 0
  some : ∀ b, a = some b → b.spot = none
  room : L.length ≤ cap
  max : cap ≤ maxLen
theorem SrcAt.below {w w' : World} {a : Option Addr} {cap : Nat} {L : List Ent} (h : SrcAt w a cap L) (hb : Below w.heap.size w w') : SrcAt w' a cap L := ⟨h.lies.below hb, h.nil, h.some, h.room, h.max⟩
/-- The same, wherever what is empty may lie. -/
structure SrcAny (w : World) (a : Option Addr) (cap : Nat) (L : List Ent) : Prop where
  lies : Lies w a 3 entL L
  nil : a = none → cap = 0
  room : L.length ≤ cap
  max : cap ≤ maxLen
theorem SrcAny.below {w w' : World} {a : Option Addr} {cap : Nat} {L : List Ent} (h : SrcAny w a cap L) (hb : Below w.heap.size w w') : SrcAny w' a cap L := ⟨h.lies.below hb, h.nil, h.room, h.max⟩
theorem SrcAt.any {w : World} {a : Option Addr} {cap : Nat} {L : List Ent} (h : SrcAt w a cap L) : SrcAny w a cap L := ⟨h.lies, h.nil, h.room, h.max⟩
def BoolLeft (w : World) (b : Bool) (e : Ending) (w' : World) : Prop := e = .returned (.bool b) ∧ Below w.heap.size w w'

/-! ### order -/
theorem less_lt : ∀ (x y : List UInt8), Op.bytesLess x y = decide (x < y)
  | [], [] => by simp [Op.bytesLess]
  | _ :: _, [] => by simp [Op.bytesLess]
  | [], _ :: _ => by simp [Op.bytesLess]
  | a :: x, b :: y => by
    rw [Op.bytesLess, less_lt x y]
    simp only [List.cons_lt_cons_iff]
    by_cases h1 : a < b <;> by_cases h2 : a = b <;> by_cases h3 : x < y <;> simp [h1, h2, h3]
def lessK (a b : ByteArray) : Bool := Op.bytesLess a.toList b.toList
theorem lessK_lt {a b : ByteArray} : lessK a b = true ↔ a.toList < b.toList := by unfold lessK; rw [less_lt]; simp
theorem bytes_eq {a b : ByteArray} (h : a.toList = b.toList) : a = b := by
  rw [Lib.toList_data, Lib.toList_data] at h
  cases a with | mk a => cases b with | mk b =>
    cases a; cases b; simp at h; rw [h]
theorem lessK_irr (a : ByteArray) : lessK a a = false := by
  cases h : lessK a a with
  | false => rfl
  | true => exact absurd (lessK_lt.1 h) (List.lt_irrefl _)
theorem lessK_trans {a b c : ByteArray} (h : lessK a b = true) (h' : lessK b c = true) : lessK a c = true :=
  lessK_lt.2 (List.lt_trans (lessK_lt.1 h) (lessK_lt.1 h'))
theorem lessK_tri {a b : ByteArray} (h : lessK a b ≠ true) (h2 : a ≠ b) : lessK b a = true := by
  have h : ¬ (lessK a b = true) := h
  rw [lessK_lt] at h ⊢
  refine Classical.byContradiction fun hl => h2 (bytes_eq (List.le_antisymm (List.not_lt.1 hl) (List.not_lt.1 h)))
theorem lessK_asymm {a b : ByteArray} (h : lessK a b = true) : lessK b a = false := by
  cases h2 : lessK b a with
  | false => rfl
  | true =>
    have h3 := lessK_trans h h2
    rw [lessK_irr] at h3
    exact h3.symm
theorem key_ne {a b : ByteArray} (h : a ≠ b) : (a.toList == b.toList) = false := by
  cases hb : a.toList == b.toList with
  | false => rfl
  | true => exact absurd (bytes_eq (by simpa using hb)) h
def Up (L : List Ent) : Prop := L.Pairwise fun a b => lessK a.key b.key = true

/-! ### comparing -/
def cmpK (a b : ByteArray) : Int := Lib.compareBytes a.data.toList b.data.toList
theorem compare_lt : ∀ (x y : List UInt8), (Lib.compareBytes x y < 0 ↔ x < y) ∧ (Lib.compareBytes x y = 0 ↔ x = y) ∧ (Lib.compareBytes x y = -1 ∨ Lib.compareBytes x y = 0 ∨ Lib.compareBytes x y = 1)
  | [], [] => by simp [Lib.compareBytes]
  | _ :: _, [] => by simp [Lib.compareBytes]
  | [], _ :: _ => by simp [Lib.compareBytes]
  | a :: x, b :: y => by
    obtain ⟨h1, h2, h3⟩ := compare_lt x y
    unfold Lib.compareBytes
    by_cases q1 : a < b
    · have : ¬ a = b := fun e => by rw [e] at q1; exact absurd q1 (by simp)
      simp [q1, this, List.cons_lt_cons_iff]
    · by_cases q2 : b < a
      · have : ¬ a = b := fun e => by rw [e] at q2; exact absurd q2 (by simp)
        simp [q1, q2, this, List.cons_lt_cons_iff]
      · have e : a = b := by
          have h5 : ¬ a.toNat < b.toNat := fun h => q1 h
          have h6 : ¬ b.toNat < a.toNat := fun h => q2 h
          exact UInt8.toNat_inj.1 (by omega)
        subst e
        simp only [q1, if_false, List.cons_lt_cons_iff, List.cons.injEq, true_and, false_or]
        exact ⟨h1, h2, h3⟩
theorem cmp_neg {a b : ByteArray} : cmpK a b < 0 ↔ lessK a b = true := by
  unfold cmpK
  rw [(compare_lt _ _).1, lessK_lt, Lib.toList_data, Lib.toList_data]
theorem cmp_zero {a b : ByteArray} : cmpK a b = 0 ↔ a = b := by
  unfold cmpK
  rw [(compare_lt _ _).2.1]
  constructor
  · intro h
    exact bytes_eq (by rw [Lib.toList_data, Lib.toList_data]; exact h)
  · rintro rfl
    rfl
theorem cmp_three (a b : ByteArray) : cmpK a b = -1 ∨ cmpK a b = 0 ∨ cmpK a b = 1 := (compare_lt _ _).2.2
end Go.Proofs.YtaifmfnmgnmgbaaGreatDoor
/- A store: where a key is. -/
namespace Go.Proofs.YtaifmfnmgnmgbaaGreatDoor
open Go.RowKit Go.My
set_option maxRecDepth 100000 in
theorem compare_35 (a b : ByteArray) (w : World) : Calls Tryz.prog 118 #[.string a, .string b] w fun e w' => e = .returned (.int .i64 (cmpK a b)) ∧ w' = w := by
  go_enter Tryz.func118, Tryz.ntmps118
  go_wp2
  rw [run_callFunc_extern Tryz.func137 (by kernel_rfl) (by kernel_rfl) (by kernel_rfl) (e := Extern.BytealgCompare.compare) (by kernel_rfl), Lib.run_compareString]
  simp only [Result.andThen]
  rw [Oper.upon_value]
  go_wp2
  go_ret
  exact ⟨rfl, rfl⟩
set_option maxRecDepth 100000 in
theorem compare_30 (a b : ByteArray) (w : World) : Calls Tryz.prog 91 #[.string a, .string b] w fun e w' => e = .returned (.int .i64 (cmpK a b)) ∧ w' = w := by
  go_enter Tryz.func91, Tryz.ntmps91
  go_wp2_with (go_at_call 118; refine (compare_35 _ _ _).mono ?_; rintro e w' ⟨rfl, rfl⟩)
  go_ret
  exact ⟨rfl, rfl⟩
set_option maxRecDepth 100000 in
theorem cmp_29 (e : Ent) (k : ByteArray) (w : World) : Calls Tryz.prog 90 #[entA e, .string k] w fun r w' => r = .returned (.int .i64 (cmpK e.key k)) ∧ Below w.heap.size w w' := by
  unfold entA
  go_enter Tryz.func90, Tryz.ntmps90
  go_wp2_with (go_at_call 91; refine (compare_30 _ _ _).mono ?_; rintro e w' ⟨rfl, rfl⟩)
  go_ret
  exact ⟨rfl, (Below.refl _ w).alloc (Nat.le_refl _) _⟩
/-- where a key would be: how many are ahead of it -/
def posOf (L : List Ent) (k : ByteArray) : Nat := (L.filter fun e => lessK e.key k).length
def hasK (L : List Ent) (k : ByteArray) : Bool := L.any fun e => decide (e.key = k)
theorem pos_split {L : List Ent} {k : ByteArray} {i : Nat} (hi : i ≤ L.length) (h1 : ∀ e ∈ L.take i, lessK e.key k = true) (h2 : ∀ e ∈ L.drop i, lessK e.key k = false) : posOf L k = i := by
  unfold posOf
  have e : L = L.take i ++ L.drop i := (List.take_append_drop i L).symm
  rw [e, List.filter_append, List.length_append, List.filter_eq_self.2 h1, List.filter_eq_nil_iff.2 fun x hx => by rw [h2 x hx]; simp]
  simp
  omega
theorem up_get {L : List Ent} (h : Up L) {i j : Nat} {x y : Ent} (hij : i < j) (h1 : L[i]? = some x) (h2 : L[j]? = some y) : lessK x.key y.key = true := by
  obtain ⟨a1, rfl⟩ := List.getElem?_eq_some_iff.1 h1
  obtain ⟨a2, rfl⟩ := List.getElem?_eq_some_iff.1 h2
  exact List.pairwise_iff_getElem.1 h i j a1 a2 hij
/-- Between two rounds of the search. -/
structure Between (L : List Ent) (k : ByteArray) (i j : Nat) : Prop where
  le : i ≤ j
  n : j ≤ L.length
  lo : ∀ (t : Nat) e, t < i → L[t]? = some e → lessK e.key k = true
  hi : ∀ (t : Nat) e, j ≤ t → L[t]? = some e → lessK e.key k = false
theorem Between.up {L : List Ent} {k : ByteArray} {i j h : Nat} {x : Ent} (hu : Up L) (b : Between L k i j) (h1 : i ≤ h) (h2 : h < j) (hx : L[h]? = some x) (hl : lessK x.key k = true) : Between L k (h + 1) j :=
  ⟨by omega, b.n, fun t e ht he => by
    by_cases q : t = h
    · subst q
      rw [hx] at he
      cases he
      exact hl
    · exact lessK_trans (up_get hu (by omega) he hx) hl, b.hi⟩
theorem Between.down {L : List Ent} {k : ByteArray} {i j h : Nat} {x : Ent} (hu : Up L) (b : Between L k i j) (h1 : i ≤ h) (h2 : h < j) (hx : L[h]? = some x) (hl : lessK x.key k = false) : Between L k i h :=
  ⟨h1, by have := b.n; omega, b.lo, fun t e ht he => by
    by_cases q : t = h
    · subst q
      rw [hx] at he
      cases he
      exact hl
    · cases h3 : lessK e.key k with
      | false => rfl
      | true =>
        have h4 := lessK_trans (up_get hu (by omega) hx he) h3
        rw [hl] at h4
        cases h4⟩
theorem Between.done {L : List Ent} {k : ByteArray} {i : Nat} (b : Between L k i i) : posOf L k = i := by
  refine pos_split b.n (fun e he => ?_) (fun e he => ?_)
  · obtain ⟨t, ht⟩ := List.getElem?_of_mem he
    have hlt := (List.getElem?_eq_some_iff.1 ht).1
    rw [List.length_take] at hlt
    rw [List.getElem?_take] at ht
    rw [if_pos (by omega)] at ht
    exact b.lo t e (by omega) ht
  · obtain ⟨t, ht⟩ := List.getElem?_of_mem he
    rw [List.getElem?_drop] at ht
    exact b.hi (i + t) e (by omega) ht
theorem Between.has {L : List Ent} {k : ByteArray} {i : Nat} (hu : Up L) (b : Between L k i i) {x : Ent} (hx : L[i]? = some x) : hasK L k = decide (x.key = k) := by
  unfold hasK
  by_cases h : x.key = k
  · rw [decide_eq_true h]
    exact List.any_eq_true.2 ⟨x, List.mem_of_getElem? hx, by simpa using h⟩
  · rw [decide_eq_false h, List.any_eq_false]
    intro e he
    obtain ⟨t, ht⟩ := List.getElem?_of_mem he
    simp only [decide_eq_true_eq]
    rintro rfl
    rcases Nat.lt_trichotomy t i with q | q | q
    · have := b.lo t e q ht
      rw [lessK_irr] at this
      cases this
    · subst q
      rw [hx] at ht
      cases ht
      exact h rfl
    · have h1 := up_get hu q hx ht
      have h2 := b.hi i x (Nat.le_refl _) hx
      rw [h1] at h2
      cases h2
theorem Between.hasnt {L : List Ent} {k : ByteArray} (b : Between L k L.length L.length) : hasK L k = false := by
  unfold hasK
  rw [List.any_eq_false]
  intro e he
  obtain ⟨t, ht⟩ := List.getElem?_of_mem he
  simp only [decide_eq_true_eq]
  rintro rfl
  have := b.lo t e (List.getElem?_eq_some_iff.1 ht).1 ht
  rw [lessK_irr] at this
  cases this
def FindLeft (w : World) (L : List Ent) (k : ByteArray) (e : Ending) (w' : World) : Prop := e = .returned (.tuple #[.int .i64 (posOf L k : Nat), .bool (hasK L k)]) ∧ Below w.heap.size w w'
set_option maxRecDepth 100000 in
set_option maxHeartbeats 3200000 in
theorem search_28 (a : Option Addr) (cap : Nat) (L : List Ent) (k : ByteArray) (w : World) (ha : Lies w a 3 entL L) (hu : Up L) (hl : L.length ≤ 100000) :
    Calls Tryz.prog 89 #[.slice a L.length cap, .string k, .func (.func 90) #[] #[]] w (FindLeft w L k) := by
  have HA := Lib.hid ha
  have HU := Lib.hid hu
  obtain ⟨n, hn⟩ : ∃ n, n = L.length := ⟨_, rfl⟩
  have HN := Lib.hid hn
  have hn9 : (n : Int) ≤ 100000 := by omega
  rw [← hn]
  have P0 : Hid (Below w.heap.size w w ∧ Between L k 0 n) := ⟨Below.refl _ _, ⟨Nat.zero_le _, by rw [hn]; exact Nat.le_refl _, fun t e h => by omega, fun t e h he => by have := (List.getElem?_eq_some_iff.1 he).1; omega⟩⟩
  clear ha hu hn hl
  go_enter Tryz.func89, Tryz.ntmps89
  go_wp2_with fail
  go_loopw [9, 10] (fun x y wr => ∃ i j : Nat, x = .int .i64 i ∧ y = .int .i64 j ∧ i ≤ j ∧ j ≤ n ∧ Hid (Below w.heap.size w wr ∧ Between L k i j)) (fun x y _ => (intOf y).toNat - (intOf x).toNat)
  case atStart => exact ⟨0, n, rfl, rfl, by omega, by omega, P0⟩
  case round =>
    clear P0
    obtain ⟨i, j, rfl, rfl, hij, hjn, HB⟩ := hrel
    by_cases hlt : i < j
    · obtain ⟨h, hh⟩ : ∃ h : Nat, h = (i + j) / 2 := ⟨_, rfl⟩
      have h1 : i ≤ h := by omega
      have h2 : h < j := by omega
      obtain ⟨x, hx⟩ : ∃ x, L[h]? = some x := ⟨_, List.getElem?_eq_getElem (by rw [← HN.out]; omega)⟩
      obtain ⟨g, o, rfl, hg, hc⟩ := HA.out.below HB.out.1 h x hx
      have d0 : wr.cell? ⟨g, o + (i + j) / 2 * 3, none⟩ = some (.string x.key) := by rw [← hh]; exact hc 0 _ rfl
      have d1 : wr.cell? ⟨g, o + (i + j) / 2 * 3 + 1, none⟩ = some (.string x.value) := by rw [← hh]; exact hc 1 _ rfl
      have d2 : wr.cell? ⟨g, o + (i + j) / 2 * 3 + 2, none⟩ = some (.int .i64 x.ver) := by rw [← hh]; exact hc 2 _ rfl
      have hlt1 : (i : Int) < (j : Int) := by omega
      have hj9 : (j : Int) ≤ 100000 := by omega
      have hhi : ((i : Int) + (j : Int)) / 2 = (h : Int) := by omega
      have hh9 : (h : Int) ≤ 100000 := by omega
      have HC : Hid (Calls Tryz.prog 90 #[.agg #[.string x.key, .string x.value, .int .i64 x.ver], .string k] wr fun r w' => r = .returned (.int .i64 (cmpK x.key k)) ∧ Below wr.heap.size wr w') := cmp_29 x k wr
      have HX := Lib.hid hx
      have HH := Lib.hid hh
      have HI := Lib.hid hhi
      clear hx hc hh hhi
      cases hl : lessK x.key k with
      | true =>
        have hneg : cmpK x.key k < 0 := cmp_neg.2 hl
        have HB2 : Hid (Between L k (h + 1) j) := HB.out.2.up HU.out h1 h2 HX.out hl
        clear hl
        go_wp2_with fail
        refine HC.out.mono ?_
        rintro r w1 ⟨rfl, hb1⟩
        have HB1 : Hid (Below w.heap.size w w1 ∧ Between L k (h + 1) j) := ⟨HB.out.1.trans (hb1.mono HB.out.1.size), HB2.out⟩
        have hh1 : ((i : Int) + (j : Int)) / 2 ≤ 100000 := by rw [HI.out]; exact hh9
        have hh2 : 0 ≤ ((i : Int) + (j : Int)) / 2 := by rw [HI.out]; omega
        clear hb1
        go_wp2_with fail
        exact ⟨⟨h + 1, j, by rw [HI.out]; simp, rfl, by omega, by omega, HB1⟩, by rw [HI.out]; simp [intOf]; omega⟩
      | false =>
        have hneg : ¬ cmpK x.key k < 0 := fun h => by rw [cmp_neg, hl] at h; cases h
        have HB2 : Hid (Between L k i h) := HB.out.2.down HU.out h1 h2 HX.out hl
        clear hl
        go_wp2_with fail
        refine HC.out.mono ?_
        rintro r w1 ⟨rfl, hb1⟩
        have HB1 : Hid (Below w.heap.size w w1 ∧ Between L k i h) := ⟨HB.out.1.trans (hb1.mono HB.out.1.size), HB2.out⟩
        clear hb1
        go_wp2_with fail
        exact ⟨⟨i, h, rfl, by rw [HI.out], by omega, by omega, HB1⟩, by rw [HI.out]; simp [intOf]; omega⟩
    · obtain rfl : i = j := by omega
      have hlt1 : ¬ (i : Int) < (i : Int) := by omega
      have HP : Hid (posOf L k = i) := HB.out.2.done
      by_cases hin : i < n
      · obtain ⟨x, hx⟩ : ∃ x, L[i]? = some x := ⟨_, List.getElem?_eq_getElem (by rw [← HN.out]; omega)⟩
        obtain ⟨g, o, rfl, hg, hc⟩ := HA.out.below HB.out.1 i x hx
        have d0 : wr.cell? ⟨g, o + i * 3, none⟩ = some (.string x.key) := hc 0 _ rfl
        have d1 : wr.cell? ⟨g, o + i * 3 + 1, none⟩ = some (.string x.value) := hc 1 _ rfl
        have d2 : wr.cell? ⟨g, o + i * 3 + 2, none⟩ = some (.int .i64 x.ver) := hc 2 _ rfl
        have hi0 : (0 : Int) ≤ (i : Int) := by omega
        have hi1 : (i : Int) < (n : Int) := by omega
        have HC : Hid (Calls Tryz.prog 90 #[.agg #[.string x.key, .string x.value, .int .i64 x.ver], .string k] wr fun r w' => r = .returned (.int .i64 (cmpK x.key k)) ∧ Below wr.heap.size wr w') := cmp_29 x k wr
        have HHS : Hid (hasK L k = decide (x.key = k)) := HB.out.2.has HU.out hx
        clear hx hc
        by_cases he : x.key = k
        · have h0 : (cmpK x.key k == 0) = true := by simpa using cmp_zero.2 he
          have HK : Hid (hasK L k = true) := by show _ = _; rw [HHS.out]; exact decide_eq_true he
          clear he
          go_wp2_with fail
          refine HC.out.mono ?_
          rintro r w1 ⟨rfl, hb1⟩
          have HB1 := Lib.hid (HB.out.1.trans (hb1.mono HB.out.1.size))
          clear hb1
          go_wp2_with fail
          refine bodyPost_ret (v := .tuple #[.int .i64 (i : Int), .bool true]) (by simp [results, Tryz.results89, go_sem]) rfl ⟨by rw [HP.out, HK.out], HB1.out⟩
        · have h0 : (cmpK x.key k == 0) = false := by simpa using fun h => he (cmp_zero.1 h)
          have HK : Hid (hasK L k = false) := by show _ = _; rw [HHS.out]; exact decide_eq_false he
          clear he
          go_wp2_with fail
          refine HC.out.mono ?_
          rintro r w1 ⟨rfl, hb1⟩
          have HB1 := Lib.hid (HB.out.1.trans (hb1.mono HB.out.1.size))
          clear hb1
          go_wp2_with fail
          refine bodyPost_ret (v := .tuple #[.int .i64 (i : Int), .bool false]) (by simp [results, Tryz.results89, go_sem]) rfl ⟨by rw [HP.out, HK.out], HB1.out⟩
      · obtain rfl : i = n := by omega
        have HK : Hid (hasK L k = false) := by
          have h := HB.out.2
          rw [HN.out] at h
          exact h.hasnt
        go_wp2_with fail
        refine bodyPost_ret (v := .tuple #[.int .i64 (i : Int), .bool false]) (by simp [results, Tryz.results89, go_sem]) rfl ⟨by rw [HP.out, HK.out], HB.out.1⟩
/-- A store in memory: its entries rise, and lie somewhere. -/
structure StoreAt (w : World) (p : Nat) (a : Option Addr) (cap : Nat) (L : List Ent) : Prop where
  cell : w.heap[p]? = some (.cells #[.slice a L.length cap] 92 (0, 0))
  src : SrcAt w a cap L
  up : Up L
theorem StoreAt.below {w w' : World} {p : Nat} {a : Option Addr} {cap : Nat} {L : List Ent} (h : StoreAt w p a cap L) (hb : Below w.heap.size w w') : StoreAt w' p a cap L :=
  ⟨(hb.block _ (lt_of_heap h.cell)).trans h.cell, h.src.below hb, h.up⟩
set_option maxRecDepth 100000 in
theorem find_23 (p : Nat) (a : Option Addr) (cap : Nat) (L : List Ent) (k : ByteArray) (w : World) (h : StoreAt w p a cap L) (hl : L.length ≤ 100000) :
    Calls Tryz.prog 51 #[.pointer (some ⟨p, 0, none⟩), .string k] w (FindLeft w L k) := by
  have HC := Lib.hid (search_28 a cap L k w h.src.lies h.up hl)
  have q : w.cell? ⟨p, 0, none⟩ = some (.slice a L.length cap) := by rw [cell_of_row _ _ _ _ _ _ h.cell]; rfl
  have lp := lt_of_heap h.cell
  generalize L.length = n at HC q
  clear h hl
  go_enter Tryz.func51, Tryz.ntmps51
  go_wp2_with fail
  refine HC.out.mono ?_
  rintro e w1 ⟨rfl, hb⟩
  have HB := Lib.hid hb
  clear hb
  go_wp2_with fail
  refine bodyPost_ret (v := .tuple #[.int .i64 (posOf L k : Nat), .bool (hasK L k)]) (by simp [results, Tryz.results51, go_sem]) rfl ⟨rfl, HB.out⟩
end Go.Proofs.YtaifmfnmgnmgbaaGreatDoor
/- A store: what a key has; what fits; how much room there is. -/
namespace Go.Proofs.YtaifmfnmgnmgbaaGreatDoor
open Go.RowKit Go.My
def getE (L : List Ent) (k : ByteArray) : Option Ent := L.find? fun e => decide (e.key = k)
theorem get_has (L : List Ent) (k : ByteArray) : (getE L k).isSome = hasK L k := by
  unfold getE hasK
  rw [Bool.eq_iff_iff, List.find?_isSome, List.any_eq_true]
theorem get_some {L : List Ent} {k : ByteArray} {e : Ent} (h : getE L k = some e) : e ∈ L ∧ e.key = k := by
  unfold getE at h
  exact ⟨List.mem_of_find?_eq_some h, by simpa using List.find?_some h⟩
theorem up_key {L : List Ent} (hu : Up L) {x y : Ent} (hx : x ∈ L) (hy : y ∈ L) (h : x.key = y.key) : x = y := by
  obtain ⟨i, hi⟩ := List.getElem?_of_mem hx
  obtain ⟨j, hj⟩ := List.getElem?_of_mem hy
  rcases Nat.lt_trichotomy i j with q | q | q
  · have := up_get hu q hi hj
    rw [h, lessK_irr] at this
    cases this
  · subst q
    rw [hi] at hj
    exact Option.some.inj hj
  · have := up_get hu q hj hi
    rw [h, lessK_irr] at this
    cases this
theorem get_mem {L : List Ent} (hu : Up L) {x : Ent} (hx : x ∈ L) : getE L x.key = some x := by
  cases h : getE L x.key with
  | none =>
    unfold getE at h
    rw [List.find?_eq_none] at h
    exact absurd (decide_eq_true rfl) (h x hx)
  | some y =>
    obtain ⟨h1, h2⟩ := get_some h
    rw [up_key hu h1 hx h2]
/-- What lies where a key is. -/
theorem pos_get {L : List Ent} (hu : Up L) {k : ByteArray} {e : Ent} (h : getE L k = some e) : L[posOf L k]? = some e := by
  obtain ⟨h1, h2⟩ := get_some h
  obtain ⟨i, hi⟩ := List.getElem?_of_mem h1
  have hil := (List.getElem?_eq_some_iff.1 hi).1
  have : posOf L k = i := by
    refine pos_split (by omega) (fun x hx => ?_) (fun x hx => ?_)
    · obtain ⟨t, ht⟩ := List.getElem?_of_mem hx
      have hlt := (List.getElem?_eq_some_iff.1 ht).1
      rw [List.length_take] at hlt
      rw [List.getElem?_take, if_pos (by omega)] at ht
      rw [← h2]
      exact up_get hu (by omega) ht hi
    · obtain ⟨t, ht⟩ := List.getElem?_of_mem hx
      rw [List.getElem?_drop] at ht
      rw [← h2]
      rcases Nat.eq_zero_or_pos t with q | q
      · subst q
        rw [Nat.add_zero, hi] at ht
        cases ht
        exact lessK_irr _
      · exact lessK_asymm (up_get hu (by omega) hi ht)
  rw [this]
  exact hi
def gotE (o : Option Ent) : Value := .tuple #[entA (o.getD ent0), .bool o.isSome]
def GetLeft (w : World) (L : List Ent) (k : ByteArray) (e : Ending) (w' : World) : Prop := e = .returned (gotE (getE L k)) ∧ Below w.heap.size w w'
set_option maxRecDepth 100000 in
set_option maxHeartbeats 1600000 in
theorem get_11 (p : Nat) (a : Option Addr) (cap : Nat) (L : List Ent) (k : ByteArray) (w : World) (h : StoreAt w p a cap L) (hl : L.length ≤ 100000) :
    Calls Tryz.prog 18 #[.pointer (some ⟨p, 0, none⟩), .string k] w (GetLeft w L k) := by
  obtain ⟨W0, hW0⟩ : ∃ W0, W0 = w.alloc (.cells #[.string ⟨#[]⟩, .string ⟨#[]⟩, .int .i64 0] 42) := ⟨_, rfl⟩
  have HB0 : Hid (Below w.heap.size w W0) := by show Below _ _ _; rw [hW0]; exact (Below.refl _ w).alloc (Nat.le_refl _) _
  have HR0 : Hid (W0.heap[w.heap.size]? = some (.cells #[.string ⟨#[]⟩, .string ⟨#[]⟩, .int .i64 0] 42 (0, 0))) := by show _ = _; rw [hW0]; exact heap_alloc_new w _
  have H := Lib.hid h
  have HF := Lib.hid (find_23 p a cap L k W0 (h.below HB0.out) hl)
  unfold FindLeft at HF
  have hgh := get_has L k
  have HPG : Hid (∀ e, getE L k = some e → L[posOf L k]? = some e) := fun e he => pos_get h.up he
  obtain ⟨n, hn⟩ : ∃ n, n = L.length := ⟨_, rfl⟩
  have HN := Lib.hid hn
  obtain ⟨q, hq⟩ : ∃ q, q = posOf L k := ⟨_, rfl⟩
  rw [← hq] at HF HPG
  rw [← hgh] at HF
  have hn9 : (n : Int) ≤ 100000 := by omega
  unfold GetLeft
  clear h hl hn hq hgh
  cases hg : getE L k with
  | none =>
    rw [hg] at HF
    simp only [Option.isSome] at HF
    clear hg HPG
    go_enter Tryz.func18, Tryz.ntmps18
    go_wp2_with fail
    rw [← hW0]
    clear hW0
    refine HF.out.mono ?_
    rintro e w1 ⟨rfl, hb1⟩
    have HB1 := Lib.hid (HB0.out.trans (hb1.mono HB0.out.size))
    have hrb := (hb1.block _ (lt_of_heap HR0.out)).trans HR0.out
    have r0 : w1.cell? ⟨w.heap.size, 0, none⟩ = some (.string ⟨#[]⟩) := by rw [cell_of_row _ _ _ _ _ _ hrb]; rfl
    have r1 : w1.cell? ⟨w.heap.size, 1, none⟩ = some (.string ⟨#[]⟩) := by rw [cell_of_row _ _ _ _ _ _ hrb]; rfl
    have r2 : w1.cell? ⟨w.heap.size, 2, none⟩ = some (.int .i64 0) := by rw [cell_of_row _ _ _ _ _ _ hrb]; rfl
    have fz : ∀ i, w1.frozen? ⟨w.heap.size, i, none⟩ = false := fun i => by simp [World.frozen?, hrb]
    have hrl := lt_of_heap hrb
    clear hb1 hrb
    go_wp2_with fail
    refine bodyPost_ret (v := .tuple #[.agg #[.string ⟨#[]⟩, .string ⟨#[]⟩, .int .i64 0], .bool false]) (by simp [results, Tryz.results18, go_sem, r0, r1, r2]) rfl ⟨rfl, ?_⟩
    have hb := HB1.out
    go_grown
  | some x =>
    have HX := Lib.hid (HPG.out x hg)
    rw [hg] at HF
    simp only [Option.isSome] at HF
    clear hg HPG
    go_enter Tryz.func18, Tryz.ntmps18
    go_wp2_with fail
    rw [← hW0]
    clear hW0
    refine HF.out.mono ?_
    rintro e w1 ⟨rfl, hb1⟩
    have HB1 := Lib.hid (HB0.out.trans (hb1.mono HB0.out.size))
    have hrb := (hb1.block _ (lt_of_heap HR0.out)).trans HR0.out
    have r0 : w1.cell? ⟨w.heap.size, 0, none⟩ = some (.string ⟨#[]⟩) := by rw [cell_of_row _ _ _ _ _ _ hrb]; rfl
    have r1 : w1.cell? ⟨w.heap.size, 1, none⟩ = some (.string ⟨#[]⟩) := by rw [cell_of_row _ _ _ _ _ _ hrb]; rfl
    have r2 : w1.cell? ⟨w.heap.size, 2, none⟩ = some (.int .i64 0) := by rw [cell_of_row _ _ _ _ _ _ hrb]; rfl
    have fz : ∀ i, w1.frozen? ⟨w.heap.size, i, none⟩ = false := fun i => by simp [World.frozen?, hrb]
    have hrl := lt_of_heap hrb
    have hs := H.out.below HB1.out
    obtain ⟨g, o, rfl, hg, hc⟩ := hs.src.lies q x HX.out
    have s0 : w1.cell? ⟨p, 0, none⟩ = some (.slice (some ⟨g, o, none⟩) n cap) := by rw [cell_of_row _ _ _ _ _ _ hs.cell, HN.out]; rfl
    have lp := lt_of_heap hs.cell
    have d0 : w1.cell? ⟨g, o + q * 3, none⟩ = some (.string x.key) := hc 0 _ rfl
    have d1 : w1.cell? ⟨g, o + q * 3 + 1, none⟩ = some (.string x.value) := hc 1 _ rfl
    have d2 : w1.cell? ⟨g, o + q * 3 + 2, none⟩ = some (.int .i64 x.ver) := hc 2 _ rfl
    have hq0 : (0 : Int) ≤ (q : Int) := by omega
    have hq1 : (q : Int) < (n : Int) := by have := (List.getElem?_eq_some_iff.1 HX.out).1; rw [HN.out]; omega
    clear hb1 hrb hs hc
    go_wp2_with fail
    refine bodyPost_ret (v := .tuple #[.agg #[.string x.key, .string x.value, .int .i64 x.ver], .bool true]) (by simp [results, Tryz.results18, go_sem, r0, r1, r2]) rfl ⟨rfl, ?_⟩
    have hb := HB1.out
    go_grown
/-- May an entry be one? -/
def fitE (e : Ent) : Bool := decide (e.key.size ≤ 16) && decide (e.value.size ≤ 64) && decide (0 < e.ver)
set_option maxRecDepth 100000 in
theorem fits_21 (e : Ent) (w : World) : Calls Tryz.prog 41 #[entA e] w (BoolLeft w (fitE e)) := by
  have HB : Hid (∀ o, Below w.heap.size w (w.alloc o)) := fun o => (Below.refl _ w).alloc (Nat.le_refl _) o
  unfold entA
  by_cases h1 : e.key.size ≤ 16
  · have e1 : (e.key.size : Int) ≤ 16 := by omega
    by_cases h2 : e.value.size ≤ 64
    · have e2 : (e.value.size : Int) ≤ 64 := by omega
      have HE : Hid (fitE e = decide (0 < e.ver)) := by show _ = _; simp [fitE, h1, h2]
      rw [HE.out]
      go_enter Tryz.func41, Tryz.ntmps41
      go_wp2_with fail
      go_ret
      exact ⟨rfl, HB.out _⟩
    · have e2 : ¬ (e.value.size : Int) ≤ 64 := by omega
      have HE : Hid (fitE e = false) := by show _ = _; simp [fitE, h2]
      rw [HE.out]
      go_enter Tryz.func41, Tryz.ntmps41
      go_wp2_with fail
      go_ret
      exact ⟨rfl, HB.out _⟩
  · have e1 : ¬ (e.key.size : Int) ≤ 16 := by omega
    have HE : Hid (fitE e = false) := by show _ = _; simp [fitE, h1]
    rw [HE.out]
    go_enter Tryz.func41, Tryz.ntmps41
    go_wp2_with fail
    go_ret
    exact ⟨rfl, HB.out _⟩
set_option maxRecDepth 100000 in
theorem room_17 (p : Nat) (a : Option Addr) (cap : Nat) (L : List Ent) (m : Int) (w : World) (h : StoreAt w p a cap L) (hl : L.length ≤ 100000) :
    Calls Tryz.prog 49 #[.pointer (some ⟨p, 0, none⟩), .int .i64 m] w fun e w' => e = .returned (.bool (decide (m ≤ 128 - (L.length : Int)))) ∧ w' = w := by
  have q : w.cell? ⟨p, 0, none⟩ = some (.slice a L.length cap) := by rw [cell_of_row _ _ _ _ _ _ h.cell]; rfl
  have lp := lt_of_heap h.cell
  generalize L.length = n at q hl ⊢
  have hn9 : (n : Int) ≤ 100000 := by omega
  clear h hl
  go_enter Tryz.func49, Tryz.ntmps49
  go_wp2_with fail
  go_ret
  exact ⟨rfl, rfl⟩
end Go.Proofs.YtaifmfnmgnmgbaaGreatDoor
