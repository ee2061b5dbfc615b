/- The arguments, opened: a slice of calls. -/
import Derived.Test.YtelmgaaofighpaaVotes
import Derived.Deep.Slices
import Derived.Deep.Fields
import Derived.ChangeSame
namespace Go.Proofs.Ytelmgaaofighpaa
open Go.ChangeShapes Go.WideShapes Go.Deep Go.RowKit

theorem list_of {α : Type} {Q : Nat → α → Prop} : ∀ n : Nat, (∀ i, i < n → ∃ o, Q i o) → ∃ l : List α, l.length = n ∧ ∀ i o, l[i]? = some o → Q i o
  | 0, _ => ⟨[], rfl, by simp⟩
  | n + 1, h => by
    obtain ⟨l, hl, hq⟩ := list_of n fun i hi => h i (by omega)
    obtain ⟨o, ho⟩ := h n (by omega)
    refine ⟨l ++ [o], by simp [hl], fun i o' hi => ?_⟩
    rw [List.getElem?_append] at hi
    split at hi
    · exact hq i o' hi
    · rename_i hge
      have : i = n := by
        rcases Nat.lt_or_ge (i - l.length) 1 with h1 | h1
        · omega
        · rw [List.getElem?_eq_none (by simpa using h1)] at hi; cases hi
      subst this
      rw [hl, Nat.sub_self] at hi
      simp at hi
      subst hi
      exact ho

theorem max64 {n : Int} (h : (Lit.int .i64 n).wf = true) : n ≤ 9223372036854775807 := by
  simp [Lit.wf] at h
  omega

section
variable {H : Type} {enc : TypeId × Value → H} {w : World} {base : Nat} {spare : Nat → Bool} {held : Bool}
theorem six {α : Type} : ∀ {l : List α}, l.length = 6 → ∃ a b c d e f, l = [a, b, c, d, e, f]
  | [a, b, c, d, e, f], _ => ⟨a, b, c, d, e, f, rfl⟩
set_option maxRecDepth 100000 in
theorem open_ops {a : Option Addr} {len cap fuel : Nat} {x : DataW H × List MemPlace} (h : DataW.trod enc Try.prog w base spare held fuel 22 [.slice a len cap] = some x) : ∃ ops : List Op6, ops.length = len ∧ OpsAt w a ops := by
  rcases open_slice Try.underlying22 h with ⟨h0, _⟩ | ⟨ad, len', cap', m, n, D, Pl, hcs, _, hl, _, hm, _, hi⟩
  · simp only [List.cons.injEq, Value.slice.injEq, and_true] at h0
    obtain ⟨_, rfl, _⟩ := h0
    exact ⟨[], rfl, fun i o ho => by simp at ho⟩
  · simp only [List.cons.injEq, Value.slice.injEq, and_true] at hcs
    obtain ⟨rfl, rfl, rfl⟩ := hcs
    have hlm : len ≤ m := by rw [hm]; split <;> omega
    have hC : Try.prog.cellsOf 28 = 6 := by kernel_rfl
    have hone : oneCellFields Try.prog (Try.prog.fieldsOf 28) = true := by kernel_rfl
    have hfs : Try.prog.underlying 28 = some (.struct (Try.prog.fieldsOf 28)) := by kernel_rfl
    refine list_of (Q := fun (i : Nat) (o : Op6) => o.n ≤ 9223372036854775807 ∧ ∃ b off, some ad = some ⟨b, off, none⟩ ∧ b < w.heap.size ∧
      w.cell? ⟨b, off + i * 6, none⟩ = some (.int .i64 o.what) ∧ w.cell? ⟨b, off + i * 6 + 1, none⟩ = some (.int .i64 o.n) ∧ w.cell? ⟨b, off + i * 6 + 2, none⟩ = some (.int .i64 o.kind) ∧
      w.cell? ⟨b, off + i * 6 + 3, none⟩ = some (.int .i64 o.who) ∧ w.cell? ⟨b, off + i * 6 + 4, none⟩ = some (.int .i64 o.d) ∧ w.cell? ⟨b, off + i * 6 + 5, none⟩ = some (.int .i64 o.v)) len ?_
    intro i hil
    obtain ⟨cs', hc, ht⟩ := hi i (by omega)
    rw [hC] at hc
    obtain ⟨_, hlen, hat⟩ := World.cells?_some hc
    obtain ⟨ys, n', _, _, _, hyl, hf⟩ := DataW.trod_struct hfs ht
    obtain ⟨v0, v1, v2, v3, v4, v5, rfl⟩ := six hlen
    · skip
      have key : ∀ (j : Nat) (f : Field) (v : Value), (Try.prog.fieldsOf 28)[j]? = some f → [v0, v1, v2, v3, v4, v5][j]? = some v → Try.prog.underlying f.type = some (.int .i64) → ∃ z, v = .int .i64 z ∧ (Lit.int .i64 z).wf = true := by
        intro j f v hj hv hu
        obtain ⟨ho, hk⟩ := hone_of hone j f hj
        have h1 := hf j f hj
        rw [ho, hk] at h1
        have hjl := (List.getElem?_eq_some_iff.1 hv).1
        have h2 : (([v0, v1, v2, v3, v4, v5] : List Value).drop j).take 1 = [v] := by
          rw [List.drop_eq_getElem_cons hjl]
          have := (List.getElem?_eq_some_iff.1 hv).2
          simp only [List.take_succ_cons, List.take_zero]
          rw [this]
        rw [h2] at h1
        have hjf := (Array.getElem?_eq_some_iff.1 hj).1
        rw [List.getElem?_eq_getElem (by omega)] at h1
        obtain ⟨z, hz, _, hw⟩ := DataW.trod_int hu h1
        simp only [List.cons.injEq, and_true] at hz
        exact ⟨z, hz, hw⟩
      obtain ⟨z0, rfl, _⟩ := key 0 _ _ rfl rfl Try.underlying3
      obtain ⟨z1, rfl, w1⟩ := key 1 _ _ rfl rfl Try.underlying2
      obtain ⟨z2, rfl, _⟩ := key 2 _ _ rfl rfl Try.underlying3
      obtain ⟨z3, rfl, _⟩ := key 3 _ _ rfl rfl Try.underlying3
      obtain ⟨z4, rfl, _⟩ := key 4 _ _ rfl rfl Try.underlying3
      obtain ⟨z5, rfl, _⟩ := key 5 _ _ rfl rfl Try.underlying2
      obtain ⟨b, off, spot⟩ := ad
      have hspot : spot = none := by
        obtain ⟨cs0, hc0, _⟩ := hi 0 (by omega)
        rw [hC] at hc0
        obtain ⟨_, hl0, hat0⟩ := World.cells?_some hc0
        have h0 := hat0 0 (by omega)
        rw [List.getElem?_eq_getElem (by omega)] at h0
        have := World.cell?_spot h0
        simpa [Addr.add] using this
      subst hspot
      have c : ∀ j v, j < 6 → [Value.int .i64 z0, .int .i64 z1, .int .i64 z2, .int .i64 z3, .int .i64 z4, .int .i64 z5][j]? = some v → w.cell? ⟨b, off + i * 6 + j, none⟩ = some v := by
        intro j v hj hv
        have := hat j hj
        rw [Addr.add_lit, Addr.add_lit, hv] at this
        exact this
      have c0 := c 0 _ (by omega) rfl
      exact ⟨⟨z0, z1, z2, z3, z4, z5⟩, max64 w1, b, off, rfl, World.block_lt_of_cell? w _ c0, c0, c 1 _ (by omega) rfl, c 2 _ (by omega) rfl, c 3 _ (by omega) rfl, c 4 _ (by omega) rfl, c 5 _ (by omega) rfl⟩
end

theorem own : ownKnob Try.prog.godebug = none := by kernel_rfl
theorem laidOut : laidOutB Try.prog = true := by kernel_rfl
end Go.Proofs.Ytelmgaaofighpaa
