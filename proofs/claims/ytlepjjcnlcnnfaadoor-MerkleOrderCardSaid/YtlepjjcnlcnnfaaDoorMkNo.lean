/- Merkle: the laws' given values, and MerkleNothing. -/
import Derived.Test.YtlepjjcnlcnnfaaDoorMkHd
namespace Go.Proofs.YtlepjjcnlcnnfaaDoor.Merkle
open Go.RowKit Go.My

structure LIn (w : World) (a : Option Addr) (l : List Ent) : Prop where
  lies : LiesAt w a 3 entL l
  most : l.length ≤ maxLen
  ver : ∀ x ∈ l, -9223372036854775808 ≤ x.ver ∧ x.ver ≤ 9223372036854775807
structure PIn (w : World) (p : Prf) (a1 a2 : Option Addr) (c2 : Nat) : Prop where
  ents : LIn w a1 p.L
  nums : LiesAt w a2 1 nums p.B
  cap : p.B.length ≤ c2
  most : c2 ≤ maxLen
  i64 : ∀ z ∈ p.B, z ≤ 9223372036854775807
section
variable {w w' : World} {a a1 a2 : Option Addr} {l : List Ent} {p : Prf} {bB c2 : Nat}
theorem LIn.below (h : LIn w a l) (hb : Below w.heap.size w w') : LIn w' a l := ⟨h.lies.below hb, h.most, h.ver⟩
theorem LIn.ents (h : LIn w a l) (hB : w.heap.size ≤ bB) (hb : Below w.heap.size w w') : EntsAt w' bB a l := by
  refine ⟨h.lies.below hb, fun g o e hne => ?_⟩
  obtain ⟨x, hx⟩ : ∃ x, l[0]? = some x := by cases l with
    | nil => exact absurd rfl hne
    | cons x l => exact ⟨x, rfl⟩
  obtain ⟨g', o', e', hg, -⟩ := h.lies 0 x hx
  rw [e'] at e
  cases e
  exact ⟨Nat.lt_of_lt_of_le hg hb.size, .inl (by omega)⟩
theorem LIn.wide (h : LIn w a l) (hg : ∀ x ∈ l, x.key.size < 60000 ∧ x.value.size < 60000) : Wide l := fun x hx => ⟨⟨by have := (hg x hx).1; omega, by have := (hg x hx).2; omega⟩, h.ver x hx⟩
theorem PIn.below (h : PIn w p a1 a2 c2) (hb : Below w.heap.size w w') : PIn w' p a1 a2 c2 := ⟨h.ents.below hb, h.nums.below hb, h.cap, h.most, h.i64⟩
theorem PIn.prf (h : PIn w p a1 a2 c2) (hB : w.heap.size ≤ bB) (hb : Below w.heap.size w w') (hg : (p.L.length ≤ 6000 ∧ ∀ x ∈ p.L, x.key.size < 60000 ∧ x.value.size < 60000) ∧ p.B.length ≤ 3000) : PrfAt w' bB p a1 a2 := by
  refine ⟨h.ents.ents hB hb, h.nums.below hb, fun g o e hne => ?_, h.ents.wide hg.1.2, hg.1.1, by omega, h.i64⟩
  obtain ⟨x, hx⟩ : ∃ x, p.B[0]? = some x := by
    cases hB : p.B with
    | nil => exact absurd hB hne
    | cons x l => exact ⟨x, rfl⟩
  obtain ⟨g', o', e', hg, -⟩ := h.nums 0 x hx
  rw [e'] at e
  cases e
  exact ⟨Nat.lt_of_lt_of_le hg hb.size, .inl (by omega)⟩
end
def boxC (p : Prf) (a1 : Option Addr) (c1 : Nat) (a2 : Option Addr) (c2 : Nat) : Obj := .cells #[.int .i64 p.many, .int .i64 p.first, .slice a1 p.L.length c1, .slice a2 p.B.length c2] 25 (0, 0)
theorem boxC_cell {w : World} {q : Nat} {p : Prf} {a1 : Option Addr} {c1 : Nat} {a2 : Option Addr} {c2 : Nat} (h : w.heap[q]? = some (boxC p a1 c1 a2 c2)) : w.cell? ⟨q, 0, none⟩ = some (.int .i64 p.many) ∧ w.cell? ⟨q, 1, none⟩ = some (.int .i64 p.first) ∧ w.cell? ⟨q, 2, none⟩ = some (.slice a1 p.L.length c1) ∧ w.cell? ⟨q, 3, none⟩ = some (.slice a2 p.B.length c2) := by
  unfold boxC at h
  exact ⟨by rw [cell_of_row _ _ _ _ _ _ h]; rfl, by rw [cell_of_row _ _ _ _ _ _ h]; rfl, by rw [cell_of_row _ _ _ _ _ _ h]; rfl, by rw [cell_of_row _ _ _ _ _ _ h]; rfl⟩
/-- a law's book, the live question behind it: what came in lies ahead of it -/
structure LawAt (w : World) (W : World) (bB b m : Nat) (v : Value) (T : List ByteArray) (a : Option Addr) (l : List Ent) : Prop where
  bk : BkT W bB b m v T
  ents : EntsAt W bB a l
  ge : w.heap.size ≤ bB
  below : Below w.heap.size w W
theorem LawAt.next {w W W' : World} {bB b m : Nat} {v v' : Value} {T T' : List ByteArray} {a : Option Addr} {l : List Ent} (h : LawAt w W bB b m v T a l) (hb : BkT W' bB b m v' T') (hf : Fx bB W W') : LawAt w W' bB b m v' T' a l :=
  ⟨hb, h.ents.keep hf, h.ge, h.below.trans (hf.below.mono h.ge)⟩
theorem LawAt.low {w W W' : World} {bB b m : Nat} {v : Value} {T : List ByteArray} {a : Option Addr} {l : List Ent} (h : LawAt w W bB b m v T a l) (hf : Below W.heap.size W W') : LawAt w W' bB b m v T a l :=
  h.next (h.bk.below hf) (Fx.of_below hf h.bk.le)
theorem part_lies {w : World} {a : Option Addr} {l L : List Ent} {f cap : Nat} (h : LiesAt w a 3 entL l) (e : L = (l.drop f).take L.length) (hf : f + L.length ≤ l.length) (hc : l.length ≤ cap) : LiesAt w (if cap = f then a else Option.map (fun x => x.add (f * 3)) a) 3 entL L := by
  intro i x hi
  have hlt := (List.getElem?_eq_some_iff.1 hi).1
  have hx : l[f + i]? = some x := by
    have e2 : L[i]? = ((l.drop f).take L.length)[i]? := congrArg (fun q => q[i]?) e
    rw [e2, List.getElem?_take, if_pos hlt, List.getElem?_drop] at hi
    exact hi
  obtain ⟨g, o, rfl, hg, hcl⟩ := h (f + i) x hx
  have hadd : Option.map (fun x : Addr => x.add (f * 3)) (some ⟨g, o, none⟩) = some ⟨g, o + f * 3, none⟩ := by
    show some (if f * 3 = 0 then (⟨g, o, none⟩ : Addr) else ⟨g, o + f * 3, none⟩) = _
    by_cases h0 : f * 3 = 0
    · rw [if_pos h0, h0]
      rfl
    · rw [if_neg h0]
  rw [if_neg (by omega), hadd]
  refine ⟨g, o + f * 3, rfl, hg, fun j u hj => ?_⟩
  rw [show o + f * 3 + i * 3 + j = o + (f + i) * 3 + j by omega]
  exact hcl j u hj
end Go.Proofs.YtlepjjcnlcnnfaaDoor.Merkle
