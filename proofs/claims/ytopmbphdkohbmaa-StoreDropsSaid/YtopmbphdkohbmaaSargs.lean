/- A store: the arguments opened; what lies in a box. -/
import Derived.Test.YtopmbphdkohbmaaSplain
import Derived.Test.YtopmbphdkohbmaaHead
import Derived.Test.YtopmbphdkohbmaaSized
namespace Go.Proofs.Ytopmbphdkohbmaa
open Go.RowKit Go.My Go.Deep
theorem own : ownKnob Try.prog.godebug = none := by kernel_rfl
theorem laidOut : laidOutB Try.prog = true := by kernel_rfl
theorem three3 {α : Type} : ∀ {l : List α}, l.length = 3 → ∃ a b c, l = [a, b, c]
  | [a, b, c], _ => ⟨a, b, c, rfl⟩
/-- so many entries as memory holds -/
def Good (L : List Ent) : Prop := (L.length : Int) ≤ 70368744177664 ∧ ∀ e ∈ L, e.key.size ≤ maxLen ∧ e.value.size ≤ maxLen
section
variable {H : Type} {enc : TypeId × Value → H} {w : World} {base : Nat} {spare : Nat → Bool} {held : Bool}
theorem open_entsV {fuel : Nat} {v : Value} {x : DataW H × List MemPlace} (h : DataW.trod enc Try.prog w base spare held fuel 22 [v] = some x) (hx : Within Try.prog 22 x.1) :
    ∃ (a : Option Addr) (cap : Nat) (L : List Ent), v = .slice a L.length cap ∧ SrcAny w a cap L ∧ Good L := by
  have hsl : ∃ a len cap, v = .slice a len cap ∧ (a = none → cap = 0) := by
    rcases open_slice Try.underlying22 h with ⟨h0, _⟩ | ⟨ad, len', cap', m, n, D, Pl, hcs, _⟩
    · exact ⟨none, 0, 0, by simpa using h0, fun _ => rfl⟩
    · exact ⟨some ad, len', cap', by simpa using hcs, fun h => by cases h⟩
  obtain ⟨a, len, cap, rfl, hnil⟩ := hsl
  obtain ⟨L, h1, h4, h5, h2, h3⟩ := open_listB (R := fun _ cs (e : Ent) => cs = entL e ∧ e.key.size ≤ maxLen ∧ e.value.size ≤ maxLen) (c := 3) Try.underlying22 (by kernel_rfl) (by omega) (fun n cs d hl hd _ => by
    obtain ⟨v0, v1, v2, rfl⟩ := three3 hl
    have hone : oneCellFields Try.prog (Try.prog.fieldsOf 28) = true := by kernel_rfl
    have hfs : Try.prog.underlying 28 = some (.struct (Try.prog.fieldsOf 28)) := by kernel_rfl
    obtain ⟨z0, rfl, s0⟩ := field_string hfs hone hd 0 _ v0 rfl rfl Try.underlying9
    obtain ⟨z1, rfl, s1⟩ := field_string hfs hone hd 1 _ v1 rfl rfl Try.underlying9
    obtain ⟨z2, rfl, _⟩ := field_int hfs hone hd 2 _ v2 rfl rfl Try.underlying2
    exact ⟨⟨z0, z1, z2⟩, rfl, s0, s1⟩) h hx
  have hb : Try.prog.bytesOf 28 = 40 := by kernel_rfl
  rw [hb] at h2
  unfold reachBytes at h2
  refine ⟨a, cap, L, by rw [h1], ⟨fun i e hi => ?_, hnil, by omega, h5⟩, by omega, fun e he => ?_⟩
  · obtain ⟨b, off, cs, p1, p2, p3, p4, rfl, _⟩ := h3 i e hi
    exact ⟨b, off, p1, p2, p4⟩
  · obtain ⟨i, hi⟩ := List.getElem?_of_mem he
    obtain ⟨_, _, _, _, _, _, _, _, p5⟩ := h3 i e hi
    exact p5
theorem open_ents {fuel len cap : Nat} {a : Option Addr} {x : DataW H × List MemPlace} (h : DataW.trod enc Try.prog w base spare held fuel 22 [.slice a len cap] = some x) (hx : Within Try.prog 22 x.1) :
    ∃ L : List Ent, L.length = len ∧ SrcAny w a cap L ∧ Good L := by
  obtain ⟨a', cap', L, h1, h2, h3⟩ := open_entsV h hx
  injection h1 with h1 h4 h5
  subst h1 h5
  exact ⟨L, h4.symm, h2, h3⟩
end
/-- an entry in a box of its own -/
def BoxE (w : World) (b : Nat) (e : Ent) : Prop := w.heap[b]? = some (.cells #[.string e.key, .string e.value, .int .i64 e.ver] 28 (0, 0))
theorem BoxE.below {w w' : World} {b : Nat} {e : Ent} (h : BoxE w b e) (hb : Below w.heap.size w w') : BoxE w' b e := (hb.block _ (lt_of_heap h)).trans h
theorem BoxE.wrote {w w' : World} {b p : Nat} {e : Ent} {cs : Array Value} (h : BoxE w b e) (hp : w.heap[p]? = some (.cells cs 52 (0, 0))) (hw : Wrote [p] w w') : BoxE w' b e :=
  (hw.block b (lt_of_heap h) (by
    intro hm
    obtain rfl : b = p := by simpa using hm
    unfold BoxE at h
    rw [hp] at h
    cases h)).trans h
theorem BoxE.cells {w : World} {b : Nat} {e : Ent} (h : BoxE w b e) : w.cell? ⟨b, 0, none⟩ = some (.string e.key) ∧ w.cell? ⟨b, 1, none⟩ = some (.string e.value) ∧ w.cell? ⟨b, 2, none⟩ = some (.int .i64 e.ver) ∧ b < w.heap.size := by
  unfold BoxE at h
  exact ⟨by rw [cell_of_row _ _ _ _ _ _ h]; rfl, by rw [cell_of_row _ _ _ _ _ _ h]; rfl, by rw [cell_of_row _ _ _ _ _ _ h]; rfl, lt_of_heap h⟩
/-- What the laws ask of their argument, wherever they stand. -/
structure AskS (w : World) (a : Option Addr) (n cap : Nat) (F : List Ent) : Prop where
  len : n = F.length
  src : SrcAny w a cap F
  of9 : ∀ W, Below w.heap.size w W → Calls Try.prog 9 #[.slice a n cap] W (OfLeft W F)
  gr10 : ∀ W, Calls Try.prog 10 #[.slice a n cap] W fun e w' => e = .returned (.bool (decide (400 < n))) ∧ w' = W
theorem askS {w : World} {a : Option Addr} {cap : Nat} {F : List Ent} (hs : SrcAny w a cap F) (hg : Good F) : AskS w a F.length cap F :=
  ⟨rfl, hs, fun W hW => of_9 a cap F W (hs.below hW) hg.1 hg.2, fun W => great_10 a F.length cap W hg.1⟩
end Go.Proofs.Ytopmbphdkohbmaa
