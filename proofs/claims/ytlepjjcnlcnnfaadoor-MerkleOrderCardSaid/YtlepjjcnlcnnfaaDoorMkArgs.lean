/- Merkle: the arguments opened. -/
import Derived.Test.YtlepjjcnlcnnfaaDoorMkNo
import Derived.Test.YtlepjjcnlcnnfaaDoorSized
import Derived.Test.YtlepjjcnlcnnfaaDoorKnob
namespace Go.Proofs.YtlepjjcnlcnnfaaDoor.Merkle
open Go.RowKit Go.My Go.Deep
theorem three3 {α : Type} : ∀ {l : List α}, l.length = 3 → ∃ a b c, l = [a, b, c]
  | [a, b, c], _ => ⟨a, b, c, rfl⟩
theorem four4 {α : Type} : ∀ {l : List α}, l.length = 4 → ∃ a b c d, l = [a, b, c, d]
  | [a, b, c, d], _ => ⟨a, b, c, d, rfl⟩
theorem one1 {α : Type} : ∀ {l : List α}, l.length = 1 → ∃ a, l = [a]
  | [a], _ => ⟨a, rfl⟩
/-- a proof as it is handed in -/
structure PrfZ where
  p : Prf
  a1 : Option Addr
  c1 : Nat
  a2 : Option Addr
  c2 : Nat
section
variable {H : Type} {enc : TypeId × Value → H} {w : World} {base : Nat} {spare : Nat → Bool} {held : Bool}
set_option maxRecDepth 100000 in
theorem open_ents {fuel len cap : Nat} {a : Option Addr} {x : DataW H × List MemPlace} (h : DataW.trod enc Tryd.prog w base spare held fuel 22 [.slice a len cap] = some x) (hx : Within Tryd.prog 22 x.1) :
    ∃ l : List Ent, l.length = len ∧ LIn w a l ∧ (len ≤ cap ∧ cap ≤ maxLen) := by
  obtain ⟨l, h1, h4, h5, h2, h3⟩ := open_listB (R := fun _ cs (e : Ent) => cs = entL e ∧ -9223372036854775808 ≤ e.ver ∧ e.ver ≤ 9223372036854775807) (c := 3) Tryd.underlying22 (by kernel_rfl) (by omega) (fun n cs d hl hd _ => by
    obtain ⟨v0, v1, v2, rfl⟩ := three3 hl
    have hone : oneCellFields Tryd.prog (Tryd.prog.fieldsOf 36) = true := by kernel_rfl
    have hfs : Tryd.prog.underlying 36 = some (.struct (Tryd.prog.fieldsOf 36)) := by kernel_rfl
    obtain ⟨z0, rfl, s0⟩ := field_string hfs hone hd 0 _ v0 rfl rfl (by kernel_rfl)
    obtain ⟨z1, rfl, s1⟩ := field_string hfs hone hd 1 _ v1 rfl rfl (by kernel_rfl)
    obtain ⟨z2, rfl, s2⟩ := field_int (k := .i64) hfs hone hd 2 _ v2 rfl rfl (by kernel_rfl)
    refine ⟨⟨z0, z1, z2⟩, rfl, ?_⟩
    simpa [Lit.wf, IntKind.min, IntKind.max, IntKind.bits, IntKind.signed] using s2) h hx
  have hat : ∀ (i : Nat) e, l[i]? = some e → ∃ g o, a = some ⟨g, o, none⟩ ∧ g < w.heap.size ∧ (∀ (j : Nat) v, (entL e)[j]? = some v → w.cell? ⟨g, o + i * 3 + j, none⟩ = some v) ∧ -9223372036854775808 ≤ e.ver ∧ e.ver ≤ 9223372036854775807 := fun i e hi => by
    obtain ⟨b, off, cs, p1, p2, p3, p4, rfl, p5⟩ := h3 i e hi
    exact ⟨b, off, p1, p2, p4, p5⟩
  refine ⟨l, h1, ⟨fun i e hi => ?_, by omega, fun e he => ?_⟩, h4, h5⟩
  · obtain ⟨g, o, q1, q2, q3, _⟩ := hat i e hi
    exact ⟨g, o, q1, q2, q3⟩
  · obtain ⟨i, hi⟩ := List.getElem?_of_mem he
    obtain ⟨g, o, q1, q2, q3, q4⟩ := hat i e hi
    exact q4
set_option maxRecDepth 100000 in
theorem open_nums {fuel len cap : Nat} {a : Option Addr} {x : DataW H × List MemPlace} (h : DataW.trod enc Tryd.prog w base spare held fuel 23 [.slice a len cap] = some x) (hx : Within Tryd.prog 23 x.1) :
    ∃ B : List Int, B.length = len ∧ LiesAt w a 1 nums B ∧ (∀ z ∈ B, z ≤ 9223372036854775807) ∧ len ≤ cap ∧ cap ≤ maxLen := by
  obtain ⟨l, h1, h4, h5, h2, h3⟩ := open_listB (R := fun _ cs (e : Int) => cs = nums e ∧ e ≤ 9223372036854775807) (c := 1) Tryd.underlying23 (by kernel_rfl) (by omega) (fun n cs d hl hd _ => by
    obtain ⟨v0, rfl⟩ := one1 hl
    obtain ⟨z, hz, _, hw⟩ := DataW.trod_int Tryd.underlying3 hd
    refine ⟨z, hz, ?_⟩
    have : -9223372036854775808 ≤ z ∧ z ≤ 9223372036854775807 := by simpa [Lit.wf, IntKind.min, IntKind.max, IntKind.bits, IntKind.signed] using hw
    exact this.2) h hx
  have hat : ∀ (i : Nat) e, l[i]? = some e → ∃ g o, a = some ⟨g, o, none⟩ ∧ g < w.heap.size ∧ (∀ (j : Nat) v, (nums e)[j]? = some v → w.cell? ⟨g, o + i * 1 + j, none⟩ = some v) ∧ e ≤ 9223372036854775807 := fun i e hi => by
    obtain ⟨b, off, cs, p1, p2, p3, p4, rfl, p5⟩ := h3 i e hi
    exact ⟨b, off, p1, p2, p4, p5⟩
  refine ⟨l, h1, fun i e hi => ?_, fun e he => ?_, h4, h5⟩
  · obtain ⟨g, o, q1, q2, q3, _⟩ := hat i e hi
    exact ⟨g, o, q1, q2, q3⟩
  · obtain ⟨i, hi⟩ := List.getElem?_of_mem he
    obtain ⟨g, o, q1, q2, q3, q4⟩ := hat i e hi
    exact q4
theorem slice_of {fuel t e : Nat} {v : Value} {x : DataW H × List MemPlace} (ht : Tryd.prog.underlying t = some (.slice e)) (h : DataW.trod enc Tryd.prog w base spare held fuel t [v] = some x) : ∃ a n c, v = .slice a n c := by
  rcases open_slice ht h with ⟨h0, _⟩ | ⟨ad, len', cap', m, n, D, Pl, hcs, _⟩
  · exact ⟨none, 0, 0, by simpa using h0⟩
  · exact ⟨_, _, _, by simpa using hcs⟩
set_option maxRecDepth 100000 in
theorem open_proofA {fuel : Nat} {cs : Array Value} {x : DataW H × List MemPlace} (hc : cs.size = Tryd.prog.cellsOf 25) (h : DataW.trod enc Tryd.prog w base spare held fuel 25 cs.toList = some x) (hx : Within Tryd.prog 25 x.1) :
    ∃ z : PrfZ, cs = #[.int .i64 z.p.many, .int .i64 z.p.first, .slice z.a1 z.p.L.length z.c1, .slice z.a2 z.p.B.length z.c2] ∧ PIn w z.p z.a1 z.a2 z.c2 := by
  have hl : cs.toList.length = 4 := by
    have : Tryd.prog.cellsOf 25 = 4 := by kernel_rfl
    rw [Array.length_toList, hc, this]
  obtain ⟨v0, v1, v2, v3, hv⟩ := four4 hl
  rw [hv] at h
  have hone : oneCellFields Tryd.prog (Tryd.prog.fieldsOf 25) = true := by kernel_rfl
  have hfs : Tryd.prog.underlying 25 = some (.struct (Tryd.prog.fieldsOf 25)) := by kernel_rfl
  obtain ⟨z0, rfl, s0⟩ := field_int (k := .i64) hfs hone h 0 _ v0 rfl rfl (by kernel_rfl)
  obtain ⟨z1, rfl, s1⟩ := field_int (k := .i64) hfs hone h 1 _ v1 rfl rfl (by kernel_rfl)
  obtain ⟨n2, y2, g2, k2⟩ := open_fieldB hfs hone h hx 2 _ v2 rfl rfl
  obtain ⟨n3, y3, g3, k3⟩ := open_fieldB hfs hone h hx 3 _ v3 rfl rfl
  obtain ⟨a1, l1, c1, rfl⟩ := slice_of Tryd.underlying22 g2
  obtain ⟨a2, l2, c2, rfl⟩ := slice_of Tryd.underlying23 g3
  obtain ⟨L, rfl, hL, -, -⟩ := open_ents g2 k2
  obtain ⟨B, rfl, hB, hi, hb1, hb2⟩ := open_nums g3 k3
  refine ⟨⟨⟨z0, z1, L, B⟩, a1, c1, a2, c2⟩, ?_, ⟨hL, hB, hb1, hb2, hi⟩⟩
  cases cs
  simpa using hv
end
end Go.Proofs.YtlepjjcnlcnnfaaDoor.Merkle
