/- General: a map that reads as an association list, in the kit's own word for maps; its keys. Nothing here names a program. -/
import Derived.Test.YtelmgaaofighpaaGen
import Derived.Maps.Own
import Derived.Lib.SlKeysI
import Derived.Sort.KeysCollected
namespace Go.My
open Go.RowKit
open Go.WideElems (Fit rd rg rd_mk rg_of)

/-- how a map's element is read where it does not matter what it holds -/
def blank (_ : Value) : Option (DataW Unit × List MemPlace) := some (.nil, [])

section
variable {K V : Type} [DecidableEq K] {P : Program} {w w' : World} {b : Nat} {ek : K → Value} {ev : V → Value} {l : List (K × V)} {k : TypeId}

theorem MapAt.owned (h : MapAt w b ek ev l) (kl : K → Lit) (hk : ∀ p ∈ l, keyOf P k (ek p.1) = some (kl p.1)) (hm : l.length ≤ maxLen) :
    ∃ ys : List (Lit × DataW Unit), w.ownsMap P k blank b l.length (.map ys) ∧ ys.length = l.length ∧ (ys.map (·.1)).Perm (l.map fun p => kl p.1) := by
  obtain ⟨_, es, c, hh, he, hst⟩ := h
  have hlen : es.toList.length = l.length := by have := congrArg List.length he; simpa using this
  have hrd : ∀ x ∈ es.toList, ∃ p ∈ l, x.key = ek p.1 ∧ rd P k blank x = some (kl p.1, .nil) := by
    intro x hx
    have h1 : (x.key, x.val) ∈ l.map fun p => (ek p.1, ev p.2) := by
      rw [← he]
      exact List.mem_map.2 ⟨x, hx, rfl⟩
    obtain ⟨p, hp, e⟩ := List.mem_map.1 h1
    injection e with e1 e2
    refine ⟨p, hp, e1.symm, ?_⟩
    have := rd_mk (P := P) (k := k) (R := blank) (key := x.key) (val := x.val) (born := x.born) (kl := kl p.1) (yv := (.nil, [])) (by rw [← e1]; exact hk p hp) rfl
    simpa using this
  have hrg : (es.toList.map (rg P k blank)) = l.map fun p => (kl p.1, DataW.nil) := by
    apply List.ext_getElem?
    intro i
    have he' := congrArg (·[i]?) he
    simp only [List.getElem?_map] at he' ⊢
    by_cases hi : i < es.toList.length
    · have hi' : i < l.length := by omega
      rw [List.getElem?_eq_getElem hi, List.getElem?_eq_getElem hi'] at he' ⊢
      simp only [Option.map_some, Option.some.injEq, Prod.mk.injEq] at he' ⊢
      have hkk := hk l[i] (List.getElem_mem hi')
      have := rd_mk (P := P) (k := k) (R := blank) (key := es.toList[i].key) (val := es.toList[i].val) (born := es.toList[i].born) (kl := kl l[i].1) (yv := (.nil, [])) (by rw [he'.1]; exact hkk) rfl
      exact rg_of this
    · rw [List.getElem?_eq_none (by omega), List.getElem?_eq_none (by omega)]
      rfl
  refine ⟨(es.toList.map (rg P k blank)).foldr DataW.insert [], ⟨es, c, hh, ⟨?_, hst, fun x hx => ?_⟩, ?_, rfl⟩, ?_, ?_⟩
  · have : es.size = l.length := by simpa using hlen
    omega
  · obtain ⟨p, _, _, h2⟩ := hrd x hx
    exact ⟨_, h2⟩
  · have : es.size = l.length := by simpa using hlen
    omega
  · rw [DataW.length_sorted, hrg]
    simp
  · have := (WideShapes.sorted_perm (es.toList.map (rg P k blank))).map (·.1)
    rw [hrg] at this ⊢
    rw [List.map_map] at this
    exact this

/-- keys that are numbers of 64 bits -/
theorem MapAt.owned64 {l : List (Int × V)} (h : MapAt w b (fun n : Int => .int .i64 n) ev l) (hu : P.underlying k = some (.int .i64)) (hw : ∀ p ∈ l, (Lit.int .i64 p.1).wf = true) (hm : l.length ≤ maxLen) :
    ∃ D0 : DataW Unit, w.ownsMap P k blank b l.length D0 ∧ Maps.size D0 = l.length ∧ (intKeys D0).Perm (l.map (·.1)) := by
  obtain ⟨ys, h1, h2, h3⟩ := h.owned (P := P) (k := k) (fun n => .int .i64 n) (fun p hp => by
    have := hw p hp
    simp [keyOf, hu, mapKey, this]) hm
  refine ⟨.map ys, h1, h2, ?_⟩
  have := h3.map intOf
  simpa [intKeys, List.map_map, Function.comp_def, intOf] using this
end
end Go.My
