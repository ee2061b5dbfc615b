/- General: arguments opened: slices of whatever elements, structs, bytes. Nothing here names a program. -/
import Derived.Deep.Slices
import Derived.Deep.Fields
import Derived.Lib.SlBytesRow
import Derived.Below
import Derived.Deep.AppendLies
import Derived.Laws.OwnMore
import Derived.Test.YtpcmkifgfokdpaaGen
namespace Go.My
open Go.ChangeShapes Go.WideShapes Go.Deep Go.RowKit

/-- The elements of a slice, c cells each, told by R. -/
def ListAt {α : Type} (w : World) (a : Option Addr) (c : Nat) (R : World → List Value → α → Prop) (l : List α) : Prop :=
  ∀ (i : Nat) (x : α), l[i]? = some x → ∃ b off cs, a = some ⟨b, off, none⟩ ∧ b < w.heap.size ∧ cs.length = c ∧ (∀ j v, cs[j]? = some v → w.cell? ⟨b, off + i * c + j, none⟩ = some v) ∧ R w cs x

theorem ListAt.nil {α : Type} (w : World) (a : Option Addr) (c : Nat) (R : World → List Value → α → Prop) : ListAt w a c R [] := fun i x h => by simp at h
theorem ListAt.below {α : Type} {w w' : World} {a : Option Addr} {c : Nat} {R : World → List Value → α → Prop} {l : List α} (h : ListAt w a c R l) (hR : ∀ cs x, R w cs x → R w' cs x) (hb : Below w.heap.size w w') : ListAt w' a c R l := by
  intro i x hx
  obtain ⟨b, off, cs, ha, hlt, hl, hc, hr⟩ := h i x hx
  exact ⟨b, off, cs, ha, Nat.lt_of_lt_of_le hlt hb.size, hl, fun j v hv => (hb.cell (p := ⟨b, off + i * c + j, none⟩) hlt).trans (hc j v hv), hR cs x hr⟩

theorem list_of {α : Type} {Q : Nat → α → Prop} : ∀ n : Nat, (∀ i, i < n → ∃ o, Q i o) → ∃ l : List α, l.length = n ∧ ∀ i o, l[i]? = some o → Q i o
  | 0, _ => ⟨[], rfl, by simp⟩
  | n + 1, h => by
    obtain ⟨l, hl, hq⟩ := list_of n fun i hi => h i (by omega)
    obtain ⟨o, ho⟩ := h n (by omega)
    refine ⟨l ++ [o], by simp [hl], fun i o' hi => ?_⟩
    rw [List.getElem?_append] at hi
    split at hi
    · exact hq i o' hi
    · rename_i hge
      have : i = n := by
        rcases Nat.lt_or_ge (i - l.length) 1 with h1 | h1
        · omega
        · rw [List.getElem?_eq_none (by simpa using h1)] at hi; cases hi
      subst this
      rw [hl, Nat.sub_self] at hi
      simp at hi
      subst hi
      exact ho

section
variable {H : Type} {enc : TypeId × Value → H} {P : Program} {w : World} {base : Nat} {spare : Nat → Bool} {held : Bool}

theorem open_list {α : Type} {t e : TypeId} {c fuel : Nat} {R : World → List Value → α → Prop} {a : Option Addr} {len cap : Nat} {x : DataW H × List MemPlace} (ht : P.underlying t = some (.slice e)) (hC : P.cellsOf e = c) (hc : 0 < c)
    (hR : ∀ (n : Nat) (cs : List Value) (d : DataW H × List MemPlace), cs.length = c → DataW.trod enc P w base spare held n e cs = some d → ∃ y, R w cs y)
    (h : DataW.trod enc P w base spare held fuel t [.slice a len cap] = some x) : ∃ l : List α, l.length = len ∧ len ≤ cap ∧ cap ≤ maxLen ∧ ListAt w a c R l := by
  rcases open_slice ht h with ⟨h0, _⟩ | ⟨ad, len', cap', m, n, D, Pl, hcs, _, hl, hcm, hm, _, hi⟩
  · simp only [List.cons.injEq, Value.slice.injEq, and_true] at h0
    obtain ⟨_, rfl, rfl⟩ := h0
    exact ⟨[], rfl, Nat.le_refl _, Nat.zero_le _, ListAt.nil _ _ _ _⟩
  · simp only [List.cons.injEq, Value.slice.injEq, and_true] at hcs
    obtain ⟨rfl, rfl, rfl⟩ := hcs
    have hlm : len ≤ m := by rw [hm]; split <;> omega
    suffices hs : ∃ l : List α, l.length = len ∧ ListAt w (some ad) c R l by
      obtain ⟨l, h1, h2⟩ := hs
      exact ⟨l, h1, hl, hcm, h2⟩
    refine list_of (Q := fun (i : Nat) (y : α) => ∃ b off cs, some ad = some ⟨b, off, none⟩ ∧ b < w.heap.size ∧ cs.length = c ∧ (∀ j v, cs[j]? = some v → w.cell? ⟨b, off + i * c + j, none⟩ = some v) ∧ R w cs y) len ?_
    intro i hil
    obtain ⟨cs', hc', htr⟩ := hi i (by omega)
    rw [hC] at hc'
    obtain ⟨_, hlen, hat⟩ := World.cells?_some hc'
    obtain ⟨y, hy⟩ := hR _ _ _ hlen htr
    obtain ⟨b, off, spot⟩ := ad
    have hspot : spot = none := by
      obtain ⟨cs0, hc0, _⟩ := hi 0 (by omega)
      rw [hC] at hc0
      obtain ⟨_, hl0, hat0⟩ := World.cells?_some hc0
      have h0 := hat0 0 hc
      rw [List.getElem?_eq_getElem (by omega)] at h0
      have := World.cell?_spot h0
      simpa [Addr.add] using this
    subst hspot
    have cc : ∀ j v, cs'[j]? = some v → w.cell? ⟨b, off + i * c + j, none⟩ = some v := by
      intro j v hv
      have hj : j < cs'.length := (List.getElem?_eq_some_iff.1 hv).1
      have := hat j (by omega)
      rw [Addr.add_lit, Addr.add_lit, hv] at this
      exact this
    have h0 := cc 0 _ (List.getElem?_eq_getElem (by omega))
    exact ⟨y, b, off, cs', rfl, World.block_lt_of_cell? w _ h0, hlen, cc, hy⟩

/-- a field of one cell, of a struct -/
theorem open_field {ts : TypeId} {fs : Array Field} {fuel : Nat} {cs : List Value} {x : DataW H × List MemPlace} (hs : P.underlying ts = some (.struct fs)) (hone : oneCellFields P fs = true)
    (h : DataW.trod enc P w base spare held fuel ts cs = some x) (j : Nat) (f : Field) (v : Value) (hj : fs[j]? = some f) (hv : cs[j]? = some v) : ∃ n y, DataW.trod enc P w base spare held n f.type [v] = some y := by
  obtain ⟨ys, n', _, _, _, hyl, hf⟩ := DataW.trod_struct hs h
  obtain ⟨ho, hk⟩ := hone_of hone j f hj
  have h1 := hf j f hj
  rw [ho, hk] at h1
  have hjl := (List.getElem?_eq_some_iff.1 hv).1
  have h2 : (cs.drop j).take 1 = [v] := by
    rw [List.drop_eq_getElem_cons hjl]
    have := (List.getElem?_eq_some_iff.1 hv).2
    simp only [List.take_succ_cons, List.take_zero]
    rw [this]
  rw [h2] at h1
  have hjf := (Array.getElem?_eq_some_iff.1 hj).1
  rw [List.getElem?_eq_getElem (by omega)] at h1
  exact ⟨n', _, h1⟩
theorem field_int {ts : TypeId} {fs : Array Field} {fuel : Nat} {cs : List Value} {x : DataW H × List MemPlace} (hs : P.underlying ts = some (.struct fs)) (hone : oneCellFields P fs = true)
    (h : DataW.trod enc P w base spare held fuel ts cs = some x) (j : Nat) (f : Field) (v : Value) (hj : fs[j]? = some f) (hv : cs[j]? = some v) {k : IntKind} (hu : P.underlying f.type = some (.int k)) : ∃ z, v = .int k z ∧ (Lit.int k z).wf = true := by
  obtain ⟨n, y, h1⟩ := open_field hs hone h j f v hj hv
  obtain ⟨z, hz, _, hw⟩ := DataW.trod_int hu h1
  simp only [List.cons.injEq, and_true] at hz
  exact ⟨z, hz, hw⟩
theorem field_string {ts : TypeId} {fs : Array Field} {fuel : Nat} {cs : List Value} {x : DataW H × List MemPlace} (hs : P.underlying ts = some (.struct fs)) (hone : oneCellFields P fs = true)
    (h : DataW.trod enc P w base spare held fuel ts cs = some x) (j : Nat) (f : Field) (v : Value) (hj : fs[j]? = some f) (hv : cs[j]? = some v) (hu : P.underlying f.type = some .string) : ∃ z : ByteArray, v = .string z ∧ z.size ≤ maxLen := by
  obtain ⟨n, y, h1⟩ := open_field hs hone h j f v hj hv
  obtain ⟨z, hz, _, hw⟩ := DataW.trod_string hu h1
  simp only [List.cons.injEq, and_true] at hz
  exact ⟨z, hz, hw⟩
theorem field_bool {ts : TypeId} {fs : Array Field} {fuel : Nat} {cs : List Value} {x : DataW H × List MemPlace} (hs : P.underlying ts = some (.struct fs)) (hone : oneCellFields P fs = true)
    (h : DataW.trod enc P w base spare held fuel ts cs = some x) (j : Nat) (f : Field) (v : Value) (hj : fs[j]? = some f) (hv : cs[j]? = some v) (hu : P.underlying f.type = some .bool) : ∃ z : Bool, v = .bool z := by
  obtain ⟨n, y, h1⟩ := open_field hs hone h j f v hj hv
  obtain ⟨z, hz, _⟩ := DataW.trod_bool hu h1
  simp only [List.cons.injEq, and_true] at hz
  exact ⟨z, hz⟩

/-- A slice of bytes that reads as s. -/
def BytesOf (w : World) (a : Option Addr) (s : ByteArray) : Prop := s.size ≠ 0 → ∃ g o, a = some ⟨g, o, none⟩ ∧ g < w.heap.size ∧ Lib.Bytes w g o s
theorem BytesOf.below {w w' : World} {a : Option Addr} {s : ByteArray} (h : BytesOf w a s) (hb : Below w.heap.size w w') : BytesOf w' a s := by
  intro h0
  obtain ⟨g, o, ha, hg, hB⟩ := h h0
  exact ⟨g, o, ha, Nat.lt_of_lt_of_le hg hb.size, fun i hi => (hb.cell (p := ⟨g, o + i, none⟩) hg).trans (hB i hi)⟩

theorem open_bytes {t e : TypeId} {fuel : Nat} {a : Option Addr} {len cap : Nat} {x : DataW H × List MemPlace} (ht : P.underlying t = some (.slice e)) (he : P.underlying e = some (.int .u8)) (hC : P.cellsOf e = 1)
    (h : DataW.trod enc P w base spare held fuel t [.slice a len cap] = some x) : ∃ s : ByteArray, s.size = len ∧ len ≤ cap ∧ cap ≤ maxLen ∧ BytesOf w a s := by
  obtain ⟨l, hl, h1, h2, hat⟩ := open_list (R := fun _ cs (z : UInt8) => cs = [.int .u8 (z.toNat : Int)]) ht hC (by omega) (fun n cs d _ hd => by
    obtain ⟨z, hz, _, hw⟩ := DataW.trod_int he hd
    refine ⟨UInt8.ofNat z.toNat, ?_⟩
    rw [hz]
    have hw2 : 0 ≤ z ∧ z ≤ 255 := by simpa [Lit.wf, IntKind.min, IntKind.max, IntKind.bits, IntKind.signed] using hw
    have : ((UInt8.ofNat z.toNat).toNat : Int) = z := by
      simp [UInt8.toNat_ofNat']
      omega
    rw [this]) h
  refine ⟨⟨l.toArray⟩, by show l.toArray.size = len; simpa using hl, h1, h2, fun h0 => ?_⟩
  have hpos : 0 < l.length := by
    have : l.toArray.size ≠ 0 := h0
    simp at this
    exact List.length_pos_iff.2 this
  obtain ⟨b, off, cs, ha, hlt, _, _, _⟩ := hat 0 _ (List.getElem?_eq_getElem hpos)
  refine ⟨b, off, ha, hlt, fun i hi => ?_⟩
  have hi' : i < l.length := by have : i < l.toArray.size := hi; simpa using this
  obtain ⟨b', off', cs', ha', _, _, hc', rfl⟩ := hat i _ (List.getElem?_eq_getElem hi')
  rw [ha] at ha'
  cases ha'
  have := hc' 0 _ rfl
  rw [Nat.mul_one, Nat.add_zero] at this
  rw [this]
  rfl

/-- A slice of slices of bytes. -/
def RowOf (w : World) (cs : List Value) (s : ByteArray) : Prop := ∃ a cap, cs = [.slice a s.size cap] ∧ s.size ≤ maxLen ∧ BytesOf w a s
theorem RowOf.below {w w' : World} {cs : List Value} {s : ByteArray} (h : RowOf w cs s) (hb : Below w.heap.size w w') : RowOf w' cs s := by
  obtain ⟨a, cap, hc, hm, h⟩ := h
  exact ⟨a, cap, hc, hm, h.below hb⟩
theorem open_rows {t e q : TypeId} {fuel : Nat} {a : Option Addr} {len cap : Nat} {x : DataW H × List MemPlace} (ht : P.underlying t = some (.slice e)) (he : P.underlying e = some (.slice q)) (hq : P.underlying q = some (.int .u8)) (ce : P.cellsOf e = 1) (cq : P.cellsOf q = 1)
    (h : DataW.trod enc P w base spare held fuel t [.slice a len cap] = some x) : ∃ l : List ByteArray, l.length = len ∧ len ≤ cap ∧ cap ≤ maxLen ∧ ListAt w a 1 RowOf l := by
  refine open_list ht ce (by omega) (fun n cs d hl hd => ?_) h
  rcases open_slice he hd with ⟨rfl, _⟩ | ⟨ad, len', cap', m, n, D, Pl, rfl, _⟩
  · exact ⟨⟨#[]⟩, none, 0, rfl, Nat.zero_le _, fun h0 => absurd rfl h0⟩
  · obtain ⟨s, hs, h1, h2, h3⟩ := open_bytes he hq cq hd
    exact ⟨s, some ad, cap', by rw [hs], by omega, h3⟩
end
/-! ### rows of a call's own -/
theorem row_wrote {S : List Nat} {w w' : World} {base : Nat} {e : TypeId} {c : Nat} {v : Value} {n : Nat} {xs : List Value} (h : w.ownsRow base e c v n xs) (hw : Wrote S w w') (hn : ∀ g, v.ownBlock = some g → g ∉ S) : w'.ownsRow base e c v n xs := by
  refine ⟨h.1, ?_⟩
  rcases h.2 with h0 | ⟨g, cap, cur, rfl, hb, hg, h3⟩
  · exact .inl h0
  · exact .inr ⟨g, cap, cur, rfl, hb, hw.heap hg (hn g rfl), h3⟩
theorem row_below {w w' : World} {base : Nat} {e : TypeId} {c : Nat} {v : Value} {n : Nat} {xs : List Value} (h : w.ownsRow base e c v n xs) (hb : Below w.heap.size w w') : w'.ownsRow base e c v n xs :=
  row_wrote (S := []) h (Wrote.of_below hb) (by simp)
theorem row_block {w : World} {base : Nat} {e : TypeId} {c : Nat} {v : Value} {n : Nat} {xs : List Value} (h : w.ownsRow base e c v n xs) {g : Nat} (hg : v.ownBlock = some g) : base ≤ g ∧ ∃ cur, w.heap[g]? = some (.cells cur e (0, 0)) := by
  rcases h.2 with ⟨rfl, _⟩ | ⟨g', cap, cur, rfl, hb, hc, _⟩
  · cases hg
  · have e : g' = g := by simpa [Value.ownBlock] using hg
    subst e
    exact ⟨hb, cur, hc⟩
theorem rows_apart {w : World} {base base' : Nat} {e e' : TypeId} {c c' : Nat} {v v' : Value} {n n' : Nat} {xs xs' : List Value} (h : w.ownsRow base e c v n xs) (h' : w.ownsRow base' e' c' v' n' xs') (hne : e ≠ e') {g : Nat} (hg : v.ownBlock = some g) : v'.ownBlock ≠ some g := by
  intro hg'
  obtain ⟨_, cur, h1⟩ := row_block h hg
  obtain ⟨_, cur', h2⟩ := row_block h' hg'
  rw [h1] at h2
  injection h2 with h2
  injection h2 with _ h3
  exact hne h3
theorem Wrote.of_grown {w w' : World} {row : Option Nat} (hg : w.grownBy w' row) : Wrote row.toList w w' :=
  ⟨hg.os, hg.tape, hg.output, hg.size, fun i hi hn => hg.block i hi (fun e => hn (by rw [← e]; simp))⟩
theorem flat_get {α β : Type} (f : α → List β) (c : Nat) (hc : ∀ x, (f x).length = c) : ∀ (L : List α) (k j : Nat) (p : α), L[k]? = some p → j < c → (L.flatMap f)[k * c + j]? = (f p)[j]?
  | [], _, _, _, h, _ => by simp at h
  | x :: L, 0, j, p, h, hj => by
    simp at h
    subst h
    rw [List.flatMap_cons, Nat.zero_mul, Nat.zero_add, List.getElem?_append_left (by rw [hc]; exact hj)]
  | x :: L, k + 1, j, p, h, hj => by
    have h' : L[k]? = some p := by simpa using h
    rw [List.flatMap_cons, List.getElem?_append_right (by rw [hc, Nat.add_mul]; omega), hc, ← flat_get f c hc L k j p h' hj]
    congr 1
    rw [Nat.add_mul]
    omega
theorem row_cell {α : Type} {w : World} {base : Nat} {e : TypeId} {c : Nat} {g n cap : Nat} {f : α → List Value} {L : List α} (h : w.ownsRow base e c (.slice (some ⟨g, 0, none⟩) n cap) n (L.flatMap f)) (hc : ∀ x, (f x).length = c) (hn : n = L.length) {k : Nat} {p : α} (hk : L[k]? = some p) {j : Nat} (hj : j < c) : w.cell? ⟨g, k * c + j, none⟩ = (f p)[j]? := by
  have hkl : k < L.length := (List.getElem?_eq_some_iff.1 hk).1
  have h1 : (k + 1) * c ≤ L.length * c := Nat.mul_le_mul_right c hkl
  rw [Nat.add_mul] at h1
  rw [h.cellAt (k * c + j) (by rw [hn]; omega), flat_get f c hc L k j p hk hj]
/-- a row of a call's own, opened -/
theorem row_form {w : World} {base : Nat} {e : TypeId} {c : Nat} {v : Value} {n : Nat} {xs : List Value} (h : w.ownsRow base e c v n xs) : ∃ a cap, v = .slice a n cap ∧ (0 < n → ∃ g, a = some ⟨g, 0, none⟩ ∧ base ≤ g ∧ g < w.heap.size) := by
  rcases h.2 with ⟨rfl, rfl⟩ | ⟨g, cap, cur, rfl, hb, hg, _⟩
  · exact ⟨none, 0, rfl, fun h => by omega⟩
  · exact ⟨_, cap, rfl, fun _ => ⟨g, rfl, hb, lt_of_heap hg⟩⟩
theorem row_pos {w : World} {base : Nat} {e : TypeId} {c : Nat} {a : Option Addr} {n n' cap : Nat} {xs : List Value} (h : w.ownsRow base e c (.slice a n cap) n' xs) (hn : 0 < n') : ∃ g, a = some ⟨g, 0, none⟩ ∧ base ≤ g ∧ g < w.heap.size := by
  rcases h.2 with ⟨_, h0⟩ | ⟨g, cap', cur, hv, hb, hg, _⟩
  · omega
  · injection hv with h1
    exact ⟨g, h1, hb, lt_of_heap hg⟩
theorem max64 {n : Int} (h : (Lit.int .i64 n).wf = true) : -9223372036854775808 ≤ n ∧ n ≤ 9223372036854775807 := by
  simpa [Lit.wf, IntKind.min, IntKind.max, IntKind.bits, IntKind.signed] using h
end Go.My
