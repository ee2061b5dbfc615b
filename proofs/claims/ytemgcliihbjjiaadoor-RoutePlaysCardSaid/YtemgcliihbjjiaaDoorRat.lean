/- A route in memory: pieces in a slice; errors; clones; where a piece is. -/
import Derived.Test.YtemgcliihbjjiaaDoorAs2
import Derived.Test.YtemgcliihbjjiaaDoorRplain
import Derived.Test.YtemgcliihbjjiaaDoorGenw
import Derived.Test.YtemgcliihbjjiaaDoorGenq
import Derived.Test.YtemgcliihbjjiaaDoorOpen
import Derived.WalkSpells
import Derived.WalkLawsBesides
import Derived.Deep.QuietTactic
import Derived.BigQuiet
import Derived.StillTailTactics
import Derived.Lib.Hide
import Derived.Deep.AppendLies
import Derived.Laws.AppendOwn
import Derived.Laws.AppendOwnNone
import Derived.RegionTactic
import Derived.ChangeAlike
import Derived.BigRegion
import Derived.Handy
namespace Go.Proofs.YtemgcliihbjjiaaDoor
open Go.RowKit Go.My

def pcL (x : Pc) : List Value := [.string x.fr, .int .i64 x.sh, .int .i64 x.ep]
def pcA (x : Pc) : Value := .agg #[.string x.fr, .int .i64 x.sh, .int .i64 x.ep]
theorem pcL_len (x : Pc) : (pcL x).length = 3 := rfl
/-- A list lies at a place: its elements' cells, one behind the other. -/
def Lies {α : Type} (w : World) (a : Option Addr) (c : Nat) (f : α → List Value) (l : List α) : Prop := ∀ (i : Nat) x, l[i]? = some x → ∃ g o, a = some ⟨g, o, none⟩ ∧ g < w.heap.size ∧ ∀ (j : Nat) v, (f x)[j]? = some v → w.cell? ⟨g, o + i * c + j, none⟩ = some v
theorem Lies.below {α : Type} {w w' : World} {a : Option Addr} {c : Nat} {f : α → List Value} {l : List α} (h : Lies w a c f l) (hb : Below w.heap.size w w') : Lies w' a c f l := fun i x hi => by
  obtain ⟨g, o, h1, h2, h3⟩ := h i x hi
  exact ⟨g, o, h1, Nat.lt_of_lt_of_le h2 hb.size, fun j v hj => (hb.cell (p := ⟨g, _, none⟩) h2).trans (h3 j v hj)⟩
/-- A slice of pieces that came from somewhere, wherever what is empty may lie. -/
structure SrcAny (w : World) (a : Option Addr) (cap : Nat) (L : List Pc) : Prop where
  lies : Lies w a 3 pcL L
  nil : a = none → cap = 0
  room : L.length ≤ cap
  max : cap ≤ maxLen
theorem SrcAny.below {w w' : World} {a : Option Addr} {cap : Nat} {L : List Pc} (h : SrcAny w a cap L) (hb : Below w.heap.size w w') : SrcAny w' a cap L := ⟨h.lies.below hb, h.nil, h.room, h.max⟩
def BoolLeft (w : World) (b : Bool) (e : Ending) (w' : World) : Prop := e = .returned (.bool b) ∧ Below w.heap.size w w'

/-! ### errors -/
def routeW : ByteArray := ⟨#[114, 111, 117, 116, 101]⟩
def rErr (e at_ : Int) : Value := errOf e [(routeW, at_)]
set_option maxRecDepth 100000 in
theorem of_of (n : Int) (hn : n ≠ 0) (w : World) : Calls Tryd.prog 42 #[.int .i64 n] w fun e w' => e = .returned (errOf n []) ∧ w = w' := by
  have h1 : (n == 0) = false := by simpa using hn
  clear hn
  go_enter Tryd.func42, Tryd.ntmps42
  go_wp2_with fail
  go_ret
  exact ⟨rfl, rfl⟩
set_option maxRecDepth 100000 in
theorem wrap_of (n : Int) (st : List StepT) (s : ByteArray) (a : Int) (w : World) : Calls Tryd.prog 41 #[errOf n st, .string s, .int .i64 a] w fun e w' => e = .returned (errOf n ((s, a) :: st)) ∧ w = w' := by
  rw [show errOf n ((s, a) :: st) = .iface 86 (.agg #[.string s, .int .i64 a, errOf n st]) from rfl]
  obtain ⟨T, v, hE⟩ := errOf_form n st
  rw [hE]
  clear hE
  go_enter Tryd.func41, Tryd.ntmps41
  go_wp2_with fail
  go_ret
  exact ⟨rfl, rfl⟩
set_option maxRecDepth 100000 in
theorem wrong_23 (e a : Int) (hn : e ≠ 0) (w : World) : Calls Tryd.prog 23 #[.int .i64 e, .int .i64 a] w fun r w' => r = .returned (rErr e a) ∧ w = w' := by
  have HO := Lib.hid (of_of e hn)
  have HW : Hid (∀ w, Calls Tryd.prog 41 #[errOf e [], .string ⟨#[114, 111, 117, 116, 101]⟩, .int .i64 a] w fun r w' => r = .returned (rErr e a) ∧ w = w') := fun w => wrap_of e [] routeW a w
  obtain ⟨T, v, hE⟩ := errOf_form e []
  obtain ⟨q, hq⟩ : ∃ q, q = rErr e a := ⟨_, rfl⟩
  rw [← hq] at HW ⊢
  rw [hE] at HO HW
  clear hE hq
  go_enter Tryd.func23, Tryd.ntmps23
  go_wp2_with (first | (go_at_call 42; refine (HO.out _).mono ?_; rintro e w' ⟨rfl, rfl⟩) | (go_at_call 41; refine (HW.out _).mono ?_; rintro e w' ⟨rfl, rfl⟩))
  go_ret
  exact ⟨rfl, rfl⟩

/-! ### rows of pieces -/
theorem pc_info : (Tryd.prog.info? 35).map (fun i => (i.zero, i.size, i.bytes)) = some (some (pcA pc0), 3, 32) := by kernel_rfl
theorem flatP_len (L : List Pc) : (L.flatMap pcL).length = L.length * 3 := by
  induction L with
  | nil => rfl
  | cons x L ih => rw [List.flatMap_cons, List.length_append, ih, pcL_len, List.length_cons]; omega
theorem lies_flat {w : World} {g o : Nat} {L : List Pc} (h : Lies w (some ⟨g, o, none⟩) 3 pcL L) {j : Nat} {u : Value} (hj : (L.flatMap pcL)[j]? = some u) : w.cell? ⟨g, o + j, none⟩ = some u := by
  have hl := (List.getElem?_eq_some_iff.1 hj).1
  rw [flatP_len] at hl
  have hi : j / 3 < L.length := by omega
  obtain ⟨g', o', e, _, hc⟩ := h (j / 3) _ (List.getElem?_eq_getElem hi)
  obtain ⟨rfl, rfl⟩ : g = g' ∧ o = o' := by simpa using e
  have e2 : j / 3 * 3 + j % 3 = j := by omega
  have := hc (j % 3) u (by rw [← hj]; conv => rhs; rw [← e2]
                           exact (flat_get pcL 3 pcL_len L (j / 3) (j % 3) _ (List.getElem?_eq_getElem hi) (by omega)).symm)
  rw [Nat.add_assoc, e2] at this
  exact this
theorem one_cells {L : List Pc} : ∀ u ∈ L.flatMap pcL, u.oneCell' = true := by
  intro u hu
  obtain ⟨e, _, h⟩ := List.mem_flatMap.1 hu
  simp only [pcL, List.mem_cons, List.not_mem_nil, or_false] at h
  rcases h with rfl | rfl | rfl <;> rfl
/-- 'append' of pieces that lie somewhere, onto a row of the call's own. -/
theorem append_src {w : World} {ops : Array Oper} {rest : List Oper} {o : Oper} {a : Act} {Q : Exit → Act → World → Prop} (hgd : o.guard = none) (s x : Operand) 
    (ho : o.op = .call { callee := .builtin .append, args := #[s, x], argTypes := #[22, 22] })
    (base : Nat) (v : Value) (R M : List Pc) (hs : a.eval s = v) (hown : w.ownsRow base 35 3 v R.length (R.flatMap pcL)) (ax : Option Addr) (c : Nat) (hx : a.eval x = .slice ax M.length c) (hsrc : SrcAny w ax c M) (hR : R.length ≤ 100000) (hM : M.length ≤ 100000) (hbase : base ≤ w.heap.size)
    (h : ∀ v' w', w'.ownsRow base 35 3 v' (R ++ M).length ((R ++ M).flatMap pcL) → w.grownBy w' v.ownBlock → wpList Tryd.prog ops Q rest (a.put o.dst v') w') : wpList Tryd.prog ops Q (o :: rest) a w := by
  obtain ⟨i0, hi0, hz0, hz1, hz2⟩ := info_parts pc_info
  cases ax with
  | none =>
    obtain rfl := hsrc.nil rfl
    have hM0 : M = [] := by
      cases M with
      | nil => rfl
      | cons y M => obtain ⟨g, o, h1, _⟩ := hsrc.lies 0 y rfl; cases h1
    subst hM0
    refine wpList_append_own_none hgd s x 22 ho base 35 i0 3 Tryd.underlying22 hi0 v R.length _ hs hown hx ?_
    exact h v w (by simpa using hown) (World.grownBy.refl w _)
  | some ad =>
    refine wpList_append_own w hgd s x 22 ho base 35 i0 (pcA pc0) 3 32 Tryd.underlying22 hi0 hz0 hz1 hz2 rfl (by decide) v R.length _ hs hown ad M.length c (M.flatMap pcL) hx (flatP_len M) (fun j u hj => ?_) one_cells (by unfold maxLen; omega) (by omega) hbase (fun v' w' h2 h3 _ => ?_)
    · have hpos : 0 < M.length := by
        have := (List.getElem?_eq_some_iff.1 hj).1
        rw [flatP_len] at this
        omega
      obtain ⟨g, o', he, _⟩ := hsrc.lies 0 _ (List.getElem?_eq_getElem hpos)
      obtain rfl : ad = ⟨g, o', none⟩ := Option.some.inj he
      rw [Addr.add_lit]
      exact lies_flat hsrc.lies hj
    · exact h v' w' (by simpa using h2) h3
/-- A row of a call's own, of pieces. -/
def RowLeft (w : World) (R : List Pc) (e : Ending) (w' : World) : Prop := ∃ v, e = .returned v ∧ w'.ownsRow w.heap.size 35 3 v R.length (R.flatMap pcL) ∧ Below w.heap.size w w'
theorem src_one {w : World} {H : Nat} {x : Pc} (h : w.heap[H]? = some (.cells #[.string x.fr, .int .i64 x.sh, .int .i64 x.ep] 35 (0, 0))) : SrcAny w (some ⟨H, 0, none⟩) 1 [x] :=
  ⟨fun i y hi => by
    match i, hi with
    | 0, hi =>
      obtain rfl : x = y := by simpa using hi
      refine ⟨H, 0, rfl, lt_of_heap h, fun j v hj => ?_⟩
      rw [cell_of_row _ _ _ _ _ _ h]
      simp only [Nat.zero_mul, Nat.zero_add]
      simpa [pcL] using hj
    | i + 1, hi => simp at hi, (fun h => by cases h), by simp, by unfold maxLen; omega⟩
theorem row_src {w : World} {base n cap : Nat} {a : Option Addr} {L : List Pc} (h : w.ownsRow base 35 3 (.slice a n cap) n (L.flatMap pcL)) (hn : n = L.length) : SrcAny w a cap L := by
  subst hn
  refine ⟨fun i x hi => ?_, fun h0 => ?_, ?_, ?_⟩
  · have hlt := (List.getElem?_eq_some_iff.1 hi).1
    obtain ⟨g, rfl, h1, h2⟩ := row_pos h (by omega)
    refine ⟨g, 0, rfl, h2, fun j v hj => ?_⟩
    have hj3 : j < 3 := (List.getElem?_eq_some_iff.1 hj).1
    rw [Nat.zero_add, row_cell h pcL_len rfl hi hj3, hj]
  · subst h0
    rcases h.2 with ⟨h1, _⟩ | ⟨g, c, cur, h1, _⟩
    · injection h1
    · injection h1 with h2; cases h2
  · rcases h.2 with ⟨h1, _⟩ | ⟨g, c, cur, h1, _, _, h4, _⟩
    · injection h1 with _ h2 h3; omega
    · injection h1 with _ _ h3; omega
  · rcases h.2 with ⟨h1, _⟩ | ⟨g, c, cur, h1, _, _, _, h5, _⟩
    · injection h1 with _ h2 h3; rw [h3]; exact Nat.zero_le _
    · injection h1 with _ _ h3; rw [h3]; exact h5
set_option maxRecDepth 100000 in
theorem clone_26 (a : Option Addr) (cap : Nat) (L : List Pc) (w : World) (h : SrcAny w a cap L) (hl : L.length ≤ 1000) : Calls Tryd.prog 26 #[.slice a L.length cap] w (RowLeft w L) := by
  have H := Lib.hid h
  cases a with
  | none =>
    obtain rfl := h.nil rfl
    have hL : L = [] := List.length_eq_zero_iff.1 (by have := h.room; omega)
    subst hL
    clear h hl
    have hs := fun (W : World) (a : Option Addr) (n c : Nat) => Lib.run_eql_slice_nil (P := Tryd.prog) W 22 35 a n c 0 0 Tryd.underlying22
    go_enter Tryd.func26, Tryd.ntmps26
    go_wp2_with fail
    go_ret
    exact ⟨_, rfl, World.ownsRow_nil _ _ _ _, Below.refl _ _⟩
  | some ad =>
    have HR : Hid ((w.alloc (.cells #[] 35)).ownsRow w.heap.size 35 3 (.slice (some ⟨w.heap.size, 0, none⟩) 0 0) ([] : List Pc).length (([] : List Pc).flatMap pcL)) := World.ownsRow_lit w _ 0 (Nat.le_refl _) (Nat.zero_le _) (by rfl)
    have HB : Hid (Below w.heap.size w (w.alloc (.cells #[] 35))) := (Below.refl _ w).alloc (Nat.le_refl _) _
    have hl9 := hl
    clear h hl
    have hs := fun (W : World) (a : Option Addr) (n c : Nat) => Lib.run_eql_slice_nil (P := Tryd.prog) W 22 35 a n c 0 0 Tryd.underlying22
    go_enter Tryd.func26, Tryd.ntmps26
    go_wp2_with (at_builtin; refine append_src rfl _ _ rfl w.heap.size _ [] L rfl HR.out (some ad) cap rfl (H.out.below HB.out) (by simp) (by omega) HB.out.size ?_)
    intro v' w3 hown hgrow
    have hb3 : Below w.heap.size w w3 := HB.out.trans ((Wrote.of_grown hgrow).below HB.out.size fun g hg' => by
      simp only [Option.mem_toList] at hg'
      exact (row_block HR.out hg').1)
    have HO := Lib.hid hown
    have HB3 := Lib.hid hb3
    clear hown hgrow hb3
    go_wp2_with fail
    go_ret
    exact ⟨_, rfl, HO.out, HB3.out⟩

/-! ### the first one that is so -/
def idx (l : List Pc) (p : Pc → Bool) : Int := if l.findIdx p < l.length then (l.findIdx p : Int) else -1
theorem idx_hit {l : List Pc} {p : Pc → Bool} {j : Nat} {r : Pc} (hr : l[j]? = some r) (hp : p r = true) (h0 : (l.take j).any p = false) : idx l p = j := by
  obtain ⟨hj, hx⟩ := List.getElem?_eq_some_iff.1 hr
  have h1 : l.findIdx p = j := by
    refine (List.findIdx_eq hj).2 ⟨by rw [hx]; exact hp, fun i hi => ?_⟩
    rw [List.any_eq_false] at h0
    have := h0 (l[i]'(by omega)) (List.mem_iff_getElem?.2 ⟨i, by rw [List.getElem?_take, if_pos hi]; exact List.getElem?_eq_getElem (by omega)⟩)
    simpa using this
  unfold idx
  rw [h1, if_pos hj]
theorem idx_none {l : List Pc} {p : Pc → Bool} (h : l.any p = false) : idx l p = -1 := by
  unfold idx
  rw [List.findIdx_eq_length.2 (fun x hx => by rw [List.any_eq_false] at h; simpa using h x hx), if_neg (by omega)]
theorem any_take {l : List Pc} {p : Pc → Bool} {j : Nat} {r : Pc} (h : l[j]? = some r) : (l.take (j + 1)).any p = ((l.take j).any p || p r) := by
  rw [List.take_add_one, h]
  simp
def IdxLeft (w : World) (z : Int) (e : Ending) (w' : World) : Prop := e = .returned (.int .i64 z) ∧ Below w.heap.size w w'
set_option maxRecDepth 100000 in
set_option maxHeartbeats 1600000 in
theorem index_24_25 (a : Option Addr) (cap : Nat) (l : List Pc) (w : World) (p : Pc → Bool) (ha : Lies w a 3 pcL l) (hl : l.length ≤ 100000)
    (hc : ∀ r W, Below w.heap.size w W → Calls Tryd.prog 25 #[pcA r] W (BoolLeft W (p r))) :
    Calls Tryd.prog 24 #[.slice a l.length cap, .func (.func 25) #[] #[]] w (IdxLeft w (idx l p)) := by
  have HA := Lib.hid ha
  have HC := Lib.hid hc
  obtain ⟨n, hn⟩ : ∃ n, n = l.length := ⟨_, rfl⟩
  have HN := Lib.hid hn
  have hn9 : (n : Int) ≤ 100000 := by omega
  rw [← hn]
  have P0 : Hid (Below w.heap.size w w ∧ (l.take 0).any p = false) := ⟨Below.refl _ _, rfl⟩
  clear ha hc hn hl
  go_enter Tryd.func24, Tryd.ntmps24
  go_wp2_with fail
  go_loopw [8] (fun i wr => ∃ j : Nat, j ≤ n ∧ i = .int .i64 j ∧ Hid (Below w.heap.size w wr ∧ (l.take j).any p = false)) (fun i _ => n - (intOf i).toNat)
  case atStart => exact ⟨0, by omega, rfl, P0⟩
  case round =>
    clear P0
    obtain ⟨j, hj, rfl, HB⟩ := hrel
    by_cases hlt : j < n
    · obtain ⟨r, hr⟩ : ∃ r, l[j]? = some r := ⟨_, List.getElem?_eq_getElem (by rw [← HN.out]; exact hlt)⟩
      obtain ⟨g, o, rfl, hg, hc⟩ := HA.out.below HB.out.1 j r hr
      have d0 : wr.cell? ⟨g, o + j * 3, none⟩ = some (.string r.fr) := hc 0 _ rfl
      have d1 : wr.cell? ⟨g, o + j * 3 + 1, none⟩ = some (.int .i64 r.sh) := hc 1 _ rfl
      have d2 : wr.cell? ⟨g, o + j * 3 + 2, none⟩ = some (.int .i64 r.ep) := hc 2 _ rfl
      have HT := any_take (p := p) hr
      have HCC : Hid (Calls Tryd.prog 25 #[.agg #[.string r.fr, .int .i64 r.sh, .int .i64 r.ep]] wr (BoolLeft wr (p r))) := HC.out r wr HB.out.1
      have HRR := Lib.hid hr
      have hj0 : (0 : Int) ≤ (j : Int) := by omega
      have hj1 : (j : Int) < (n : Int) := by omega
      rw [HB.out.2] at HT
      clear hr hc
      cases hp : p r with
      | true =>
        rw [hp] at HCC
        have HANY : Hid (idx l p = j) := idx_hit HRR.out hp HB.out.2
        clear hp HT
        go_wp2_with fail
        refine HCC.out.mono ?_
        rintro e w1 ⟨rfl, hb1⟩
        have HB1 := Lib.hid (HB.out.1.trans (hb1.mono HB.out.1.size))
        clear hb1
        go_wp2_with fail
        go_ret
        exact ⟨by rw [HANY.out]; rfl, HB1.out⟩
      | false =>
        rw [hp] at HCC HT
        have HTT := Lib.hid HT
        clear hp HT
        go_wp2_with fail
        refine HCC.out.mono ?_
        rintro e w1 ⟨rfl, hb1⟩
        have HB1 : Hid (Below w.heap.size w w1 ∧ (l.take (j + 1)).any p = false) := ⟨HB.out.1.trans (hb1.mono HB.out.1.size), by rw [HTT.out]; rfl⟩
        clear hb1
        go_wp2_with fail
        exact ⟨⟨j + 1, by omega, by simp, HB1⟩, by simp [intOf]; omega⟩
    · obtain rfl : j = n := by omega
      go_wp2_with fail
      go_ret
      have ht := HB.out.2
      rw [List.take_of_length_le (by rw [← HN.out]; exact Nat.le_refl _)] at ht
      exact ⟨by rw [idx_none ht]; rfl, HB.out.1⟩
set_option maxRecDepth 100000 in
set_option maxHeartbeats 1600000 in
theorem index_24_46 (q : Option Addr) (a : Option Addr) (cap : Nat) (l : List Pc) (w : World) (p : Pc → Bool) (ha : Lies w a 3 pcL l) (hl : l.length ≤ 100000)
    (hc : ∀ r W, Below w.heap.size w W → Calls Tryd.prog 46 #[pcA r, .pointer q] W (BoolLeft W (p r))) :
    Calls Tryd.prog 24 #[.slice a l.length cap, .func (.func 46) #[] #[.pointer q]] w (IdxLeft w (idx l p)) := by
  have HA := Lib.hid ha
  have HC := Lib.hid hc
  obtain ⟨n, hn⟩ : ∃ n, n = l.length := ⟨_, rfl⟩
  have HN := Lib.hid hn
  have hn9 : (n : Int) ≤ 100000 := by omega
  rw [← hn]
  have P0 : Hid (Below w.heap.size w w ∧ (l.take 0).any p = false) := ⟨Below.refl _ _, rfl⟩
  clear ha hc hn hl
  go_enter Tryd.func24, Tryd.ntmps24
  go_wp2_with fail
  go_loopw [8] (fun i wr => ∃ j : Nat, j ≤ n ∧ i = .int .i64 j ∧ Hid (Below w.heap.size w wr ∧ (l.take j).any p = false)) (fun i _ => n - (intOf i).toNat)
  case atStart => exact ⟨0, by omega, rfl, P0⟩
  case round =>
    clear P0
    obtain ⟨j, hj, rfl, HB⟩ := hrel
    by_cases hlt : j < n
    · obtain ⟨r, hr⟩ : ∃ r, l[j]? = some r := ⟨_, List.getElem?_eq_getElem (by rw [← HN.out]; exact hlt)⟩
      obtain ⟨g, o, rfl, hg, hc⟩ := HA.out.below HB.out.1 j r hr
      have d0 : wr.cell? ⟨g, o + j * 3, none⟩ = some (.string r.fr) := hc 0 _ rfl
      have d1 : wr.cell? ⟨g, o + j * 3 + 1, none⟩ = some (.int .i64 r.sh) := hc 1 _ rfl
      have d2 : wr.cell? ⟨g, o + j * 3 + 2, none⟩ = some (.int .i64 r.ep) := hc 2 _ rfl
      have HT := any_take (p := p) hr
      have HCC : Hid (Calls Tryd.prog 46 #[.agg #[.string r.fr, .int .i64 r.sh, .int .i64 r.ep], .pointer q] wr (BoolLeft wr (p r))) := HC.out r wr HB.out.1
      have HRR := Lib.hid hr
      have hj0 : (0 : Int) ≤ (j : Int) := by omega
      have hj1 : (j : Int) < (n : Int) := by omega
      rw [HB.out.2] at HT
      clear hr hc
      cases hp : p r with
      | true =>
        rw [hp] at HCC
        have HANY : Hid (idx l p = j) := idx_hit HRR.out hp HB.out.2
        clear hp HT
        go_wp2_with fail
        refine HCC.out.mono ?_
        rintro e w1 ⟨rfl, hb1⟩
        have HB1 := Lib.hid (HB.out.1.trans (hb1.mono HB.out.1.size))
        clear hb1
        go_wp2_with fail
        go_ret
        exact ⟨by rw [HANY.out]; rfl, HB1.out⟩
      | false =>
        rw [hp] at HCC HT
        have HTT := Lib.hid HT
        clear hp HT
        go_wp2_with fail
        refine HCC.out.mono ?_
        rintro e w1 ⟨rfl, hb1⟩
        have HB1 : Hid (Below w.heap.size w w1 ∧ (l.take (j + 1)).any p = false) := ⟨HB.out.1.trans (hb1.mono HB.out.1.size), by rw [HTT.out]; rfl⟩
        clear hb1
        go_wp2_with fail
        exact ⟨⟨j + 1, by omega, by simp, HB1⟩, by simp [intOf]; omega⟩
    · obtain rfl : j = n := by omega
      go_wp2_with fail
      go_ret
      have ht := HB.out.2
      rw [List.take_of_length_le (by rw [← HN.out]; exact Nat.le_refl _)] at ht
      exact ⟨by rw [idx_none ht]; rfl, HB.out.1⟩
set_option maxRecDepth 100000 in
set_option maxHeartbeats 1600000 in
theorem index_24_30 (a : Option Addr) (cap : Nat) (l : List Pc) (w : World) (p : Pc → Bool) (ha : Lies w a 3 pcL l) (hl : l.length ≤ 100000)
    (hc : ∀ r W, Below w.heap.size w W → Calls Tryd.prog 30 #[pcA r] W (BoolLeft W (p r))) :
    Calls Tryd.prog 24 #[.slice a l.length cap, .func (.func 30) #[] #[]] w (IdxLeft w (idx l p)) := by
  have HA := Lib.hid ha
  have HC := Lib.hid hc
  obtain ⟨n, hn⟩ : ∃ n, n = l.length := ⟨_, rfl⟩
  have HN := Lib.hid hn
  have hn9 : (n : Int) ≤ 100000 := by omega
  rw [← hn]
  have P0 : Hid (Below w.heap.size w w ∧ (l.take 0).any p = false) := ⟨Below.refl _ _, rfl⟩
  clear ha hc hn hl
  go_enter Tryd.func24, Tryd.ntmps24
  go_wp2_with fail
  go_loopw [8] (fun i wr => ∃ j : Nat, j ≤ n ∧ i = .int .i64 j ∧ Hid (Below w.heap.size w wr ∧ (l.take j).any p = false)) (fun i _ => n - (intOf i).toNat)
  case atStart => exact ⟨0, by omega, rfl, P0⟩
  case round =>
    clear P0
    obtain ⟨j, hj, rfl, HB⟩ := hrel
    by_cases hlt : j < n
    · obtain ⟨r, hr⟩ : ∃ r, l[j]? = some r := ⟨_, List.getElem?_eq_getElem (by rw [← HN.out]; exact hlt)⟩
      obtain ⟨g, o, rfl, hg, hc⟩ := HA.out.below HB.out.1 j r hr
      have d0 : wr.cell? ⟨g, o + j * 3, none⟩ = some (.string r.fr) := hc 0 _ rfl
      have d1 : wr.cell? ⟨g, o + j * 3 + 1, none⟩ = some (.int .i64 r.sh) := hc 1 _ rfl
      have d2 : wr.cell? ⟨g, o + j * 3 + 2, none⟩ = some (.int .i64 r.ep) := hc 2 _ rfl
      have HT := any_take (p := p) hr
      have HCC : Hid (Calls Tryd.prog 30 #[.agg #[.string r.fr, .int .i64 r.sh, .int .i64 r.ep]] wr (BoolLeft wr (p r))) := HC.out r wr HB.out.1
      have HRR := Lib.hid hr
      have hj0 : (0 : Int) ≤ (j : Int) := by omega
      have hj1 : (j : Int) < (n : Int) := by omega
      rw [HB.out.2] at HT
      clear hr hc
      cases hp : p r with
      | true =>
        rw [hp] at HCC
        have HANY : Hid (idx l p = j) := idx_hit HRR.out hp HB.out.2
        clear hp HT
        go_wp2_with fail
        refine HCC.out.mono ?_
        rintro e w1 ⟨rfl, hb1⟩
        have HB1 := Lib.hid (HB.out.1.trans (hb1.mono HB.out.1.size))
        clear hb1
        go_wp2_with fail
        go_ret
        exact ⟨by rw [HANY.out]; rfl, HB1.out⟩
      | false =>
        rw [hp] at HCC HT
        have HTT := Lib.hid HT
        clear hp HT
        go_wp2_with fail
        refine HCC.out.mono ?_
        rintro e w1 ⟨rfl, hb1⟩
        have HB1 : Hid (Below w.heap.size w w1 ∧ (l.take (j + 1)).any p = false) := ⟨HB.out.1.trans (hb1.mono HB.out.1.size), by rw [HTT.out]; rfl⟩
        clear hb1
        go_wp2_with fail
        exact ⟨⟨j + 1, by omega, by simp, HB1⟩, by simp [intOf]; omega⟩
    · obtain rfl : j = n := by omega
      go_wp2_with fail
      go_ret
      have ht := HB.out.2
      rw [List.take_of_length_le (by rw [← HN.out]; exact Nat.le_refl _)] at ht
      exact ⟨by rw [idx_none ht]; rfl, HB.out.1⟩
end Go.Proofs.YtemgcliihbjjiaaDoor
