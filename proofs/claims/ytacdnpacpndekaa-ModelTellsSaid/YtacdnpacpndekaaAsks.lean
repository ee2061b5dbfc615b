/- The model: what a law asks, and what it gets. -/
import Derived.Test.YtacdnpacpndekaaFacts
import Derived.Test.YtacdnpacpndekaaHead
namespace Go.Proofs.Ytacdnpacpndekaa
open Go.RowKit Go.My Go.My.Model Go.Deep
/-- What the calls of a law answer, wherever its transactions still are. -/
structure Asks (w : World) (a : Option Addr) (n cap : Nat) (T : List Tx) : Prop where
  len : n = T.length
  head : ∀ W : World, Calls Try.prog 8 #[] W fun e w' => e = .returned (.bool true) ∧ Below W.heap.size W w'
  great : ∀ W, Below w.heap.size w W → Calls Try.prog 9 #[.slice a n cap] W (GreatLeft W T)
  run : ∀ W, Below w.heap.size w W → Small T → Calls Try.prog 13 #[.slice a n cap] W (RunDone W (stateOf (flat T n)))
  at_ : ∀ W k v, Below w.heap.size w W → Small T → Calls Try.prog 10 #[.slice a n cap, .string k, .int .i64 v] W (AtLeft W T k v)
  fits : ∀ W, Below w.heap.size w W → Small T → Calls Try.prog 15 #[.slice a n cap] W (FitsLeft W T)
  tx : ∀ (i : Nat) t, T[i]? = some t → ∃ g o ra rc, a = some ⟨g, o, none⟩ ∧ g < w.heap.size ∧ ∀ W, Below w.heap.size w W → W.cell? ⟨g, o + i * 4 + 3, none⟩ = some (.slice ra t.writes.length rc) ∧
    ∀ (j : Nat) x, t.writes[j]? = some x → ∃ g' o', ra = some ⟨g', o', none⟩ ∧ g' < w.heap.size ∧ ∀ W, Below w.heap.size w W → W.cell? ⟨g', o' + j * 2, none⟩ = some (.string x.1) ∧ W.cell? ⟨g', o' + j * 2 + 1, none⟩ = some (.string x.2)
theorem asks {w : World} {a : Option Addr} {T : List Tx} (cap : Nat) (ho : OrdAt w a T) (hf : Fine T) : Asks w a T.length cap T where
  len := rfl
  head := head_any
  great W hb := great_any a cap T W (ord_far ho hb (by simp)) hf
  run W hb hs := run_any a cap T W (ord_far ho hb (by simp)) (by have := hs.1; omega) (by have := small_flat hs T.length; omega)
  at_ W k v hb hs := at_any a cap T k v W (ord_far ho hb (by simp)) (by have := hs.1; omega) (by have := small_flat hs T.length; omega)
  fits W hb hs := fits_any a cap T W (ord_far ho hb (by simp)) (by have := hs.1; omega) (by have := small_flat hs T.length; omega) (fun t ht => by have := hs.2 t ht; omega)
  tx i t hi := by
    obtain ⟨g, o, ra, rc, wa, wc, ha, hg, c0, c1, c2, c3, h1, h2⟩ := ord_at ho hi
    refine ⟨g, o, wa, wc, ha, hg, fun W hb => ⟨(hb.cell (p := ⟨g, _, none⟩) hg).trans c3, fun j x hj => ?_⟩⟩
    obtain ⟨g', o', h3, h4, h5, h6, _⟩ := wri_at h2 hj
    exact ⟨g', o', h3, h4, fun W hb => ⟨(hb.cell (p := ⟨g', _, none⟩) h4).trans h5, (hb.cell (p := ⟨g', _, none⟩) h4).trans h6⟩⟩

/-- What Run left, wherever it still is. -/
structure Left3 (w W : World) (ra : Option Addr) (L : List Ent) : Prop where
  below : Below w.heap.size w W
  ent : ∀ (i : Nat) e, L[i]? = some e → ∃ g, ra = some ⟨g, 0, none⟩ ∧ w.heap.size ≤ g ∧ g < W.heap.size ∧ ∀ W', Below W.heap.size W W' → W'.cell? ⟨g, i * 3, none⟩ = some (.string e.key) ∧ W'.cell? ⟨g, i * 3 + 1, none⟩ = some (.string e.value) ∧ W'.cell? ⟨g, i * 3 + 2, none⟩ = some (.int .i64 e.ver)
theorem left_open {w W : World} {m : St} {e : Ending} (h : RunDone w m e W) : ∃ ra cap, e = .returned (.slice ra (runL m).length cap) ∧ Left3 w W ra (runL m) := by
  obtain ⟨v, rfl, hrow, hb⟩ := h
  obtain ⟨ra, cap, rfl, hpos⟩ := row_form hrow
  refine ⟨ra, cap, rfl, hb, fun i e hi => ?_⟩
  have hlt := (List.getElem?_eq_some_iff.1 hi).1
  obtain ⟨g, rfl, h1, h2⟩ := hpos (by omega)
  have hc := fun j hj => row_cell hrow entL_len rfl hi (j := j) hj
  refine ⟨g, rfl, h1, h2, fun W' hb' => ?_⟩
  have ce : ∀ j, W'.cell? ⟨g, j, none⟩ = W.cell? ⟨g, j, none⟩ := fun j => hb'.cell (p := ⟨g, j, none⟩) h2
  exact ⟨(ce _).trans (hc 0 (by omega)), (ce _).trans (hc 1 (by omega)), (ce _).trans (hc 2 (by omega))⟩
end Go.Proofs.Ytacdnpacpndekaa
