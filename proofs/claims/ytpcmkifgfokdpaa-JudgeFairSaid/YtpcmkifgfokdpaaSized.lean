/- General: arguments opened, with the reach's bounds on all that is read in them. Nothing here names a program. -/
import Derived.Test.YtpcmkifgfokdpaaOpen
import Derived.SizedLaws
namespace Go.My
open Go.ChangeShapes Go.WideShapes Go.Deep Go.RowKit

section
variable {H : Type} {enc : TypeId × Value → H} {P : Program} {w : World} {base : Nat} {spare : Nat → Bool} {held : Bool}

/-- All that is read takes no more than the reach. -/
def Within (P : Program) (t : TypeId) (d : DataW H) : Prop := ∀ k ∈ d.weights P t, k ≤ reachBytes
theorem weights_all {P : Program} {e : TypeId} : ∀ {l : List (DataW H)} {d : DataW H}, d ∈ l → ∀ n ∈ d.weights P e, n ∈ DataW.weightsAll P e l
  | x :: l, d, hd, n, hn => by
    simp only [DataW.weightsAll, List.mem_append]
    rcases List.mem_cons.1 hd with rfl | hd
    · exact .inl hn
    · exact .inr (weights_all hd n hn)
theorem within_args {ts : List TypeId} {ds : List (DataW H)} (h : (DataW.weightsEach P ts ds).all (· ≤ reachBytes) = true) {j : Nat} {t : TypeId} {d : DataW H} (ht : ts[j]? = some t) (hd : ds[j]? = some d) : Within P t d := fun k hk => by
  have := List.all_eq_true.1 h k (DataW.weights_mem_each ht hd k hk)
  simpa using this

theorem open_listB {α : Type} {t e : TypeId} {c fuel : Nat} {R : World → List Value → α → Prop} {a : Option Addr} {len cap : Nat} {x : DataW H × List MemPlace} (ht : P.underlying t = some (.slice e)) (hC : P.cellsOf e = c) (hc : 0 < c)
    (hR : ∀ (n : Nat) (cs : List Value) (d : DataW H × List MemPlace), cs.length = c → DataW.trod enc P w base spare held n e cs = some d → Within P e d.1 → ∃ y, R w cs y)
    (h : DataW.trod enc P w base spare held fuel t [.slice a len cap] = some x) (hx : Within P t x.1) : ∃ l : List α, l.length = len ∧ len ≤ cap ∧ cap ≤ maxLen ∧ len * P.bytesOf e ≤ reachBytes ∧ ListAt w a c R l := by
  rcases open_slice ht h with ⟨h0, _⟩ | ⟨ad, len', cap', m, n, D, Pl, hcs, _, hl, hcm, hm, hxe, hi⟩
  · simp only [List.cons.injEq, Value.slice.injEq, and_true] at h0
    obtain ⟨_, rfl, rfl⟩ := h0
    exact ⟨[], rfl, Nat.le_refl _, Nat.zero_le _, by simp, ListAt.nil _ _ _ _⟩
  · simp only [List.cons.injEq, Value.slice.injEq, and_true] at hcs
    obtain ⟨rfl, rfl, rfl⟩ := hcs
    have hlm : len ≤ m := by rw [hm]; split <;> omega
    have hb : len * P.bytesOf e ≤ reachBytes := by
      have := hx ((len + (m - len)) * P.bytesOf e) (by rw [hxe]; simp [DataW.weights, ht])
      exact Nat.le_trans (Nat.mul_le_mul_right _ (by omega)) this
    have hD : ∀ i, i < len → Within P e (D i) := fun i hi k hk => hx k (by
      rw [hxe]
      simp only [DataW.weights, ht, List.mem_cons, List.mem_append]
      exact .inr (.inl (weights_all (List.mem_map.2 ⟨i, List.mem_range.2 hi, rfl⟩) k hk)))
    suffices hs : ∃ l : List α, l.length = len ∧ ListAt w (some ad) c R l by
      obtain ⟨l, h1, h2⟩ := hs
      exact ⟨l, h1, hl, hcm, hb, h2⟩
    refine list_of (Q := fun (i : Nat) (y : α) => ∃ b off cs, some ad = some ⟨b, off, none⟩ ∧ b < w.heap.size ∧ cs.length = c ∧ (∀ j v, cs[j]? = some v → w.cell? ⟨b, off + i * c + j, none⟩ = some v) ∧ R w cs y) len ?_
    intro i hil
    obtain ⟨cs', hc', htr⟩ := hi i (by omega)
    rw [hC] at hc'
    obtain ⟨_, hlen, hat⟩ := World.cells?_some hc'
    obtain ⟨y, hy⟩ := hR _ _ _ hlen htr (hD i hil)
    obtain ⟨b, off, spot⟩ := ad
    have hspot : spot = none := by
      obtain ⟨cs0, hc0, _⟩ := hi 0 (by omega)
      rw [hC] at hc0
      obtain ⟨_, hl0, hat0⟩ := World.cells?_some hc0
      have h0 := hat0 0 hc
      rw [List.getElem?_eq_getElem (by omega)] at h0
      have := World.cell?_spot h0
      simpa [Addr.add] using this
    subst hspot
    have cc : ∀ j v, cs'[j]? = some v → w.cell? ⟨b, off + i * c + j, none⟩ = some v := by
      intro j v hv
      have hj : j < cs'.length := (List.getElem?_eq_some_iff.1 hv).1
      have := hat j (by omega)
      rw [Addr.add_lit, Addr.add_lit, hv] at this
      exact this
    have h0 := cc 0 _ (List.getElem?_eq_getElem (by omega))
    exact ⟨y, b, off, cs', rfl, World.block_lt_of_cell? w _ h0, hlen, cc, hy⟩

/-- a field of one cell, of a struct, with its bounds -/
theorem open_fieldB {ts : TypeId} {fs : Array Field} {fuel : Nat} {cs : List Value} {x : DataW H × List MemPlace} (hs : P.underlying ts = some (.struct fs)) (hone : oneCellFields P fs = true)
    (h : DataW.trod enc P w base spare held fuel ts cs = some x) (hx : Within P ts x.1) (j : Nat) (f : Field) (v : Value) (hj : fs[j]? = some f) (hv : cs[j]? = some v) : ∃ n y, DataW.trod enc P w base spare held n f.type [v] = some y ∧ Within P f.type y.1 := by
  obtain ⟨ys, n', _, hxe, _, hyl, hf⟩ := DataW.trod_struct hs h
  obtain ⟨ho, hk⟩ := hone_of hone j f hj
  have h1 := hf j f hj
  rw [ho, hk] at h1
  have hjl := (List.getElem?_eq_some_iff.1 hv).1
  have h2 : (cs.drop j).take 1 = [v] := by
    rw [List.drop_eq_getElem_cons hjl]
    have := (List.getElem?_eq_some_iff.1 hv).2
    simp only [List.take_succ_cons, List.take_zero]
    rw [this]
  rw [h2] at h1
  have hjf := (Array.getElem?_eq_some_iff.1 hj).1
  have hy : ys[j]? = some (ys[j]'(by omega)) := List.getElem?_eq_getElem (by omega)
  rw [hy] at h1
  refine ⟨n', _, h1, fun k hk => hx k ?_⟩
  rw [hxe]
  simp only [DataW.weights, hs]
  refine DataW.weights_mem_each (j := j) (t := f.type) (d := (ys[j]'(by omega)).1) ?_ ?_ k hk
  · rw [List.getElem?_map]
    simp [hj]
  · rw [List.getElem?_map, hy]
    rfl
end
end Go.My
