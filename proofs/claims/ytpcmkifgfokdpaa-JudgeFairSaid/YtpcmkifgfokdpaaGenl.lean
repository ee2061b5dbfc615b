/- General: a region that draws its order, whose operations read, and whose callees read and make memory but write to nothing that was there. Nothing here names a program. -/
import Derived.Below
import Derived.Deep.QuietTactic
import Derived.BigQuiet
namespace Go.My
open Go.RowKit

/-- The worlds that hold all that a world held. -/
def Later (w : World) := { W : World // Below w.heap.size w W }
theorem Later.cell {w : World} (x : Later w) {b i : Nat} (h : b < w.heap.size) : x.1.cell? ⟨b, i, none⟩ = w.cell? ⟨b, i, none⟩ := x.2.cell (p := ⟨b, i, none⟩) h
theorem Later.here (w : World) : Nonempty (Later w) := ⟨⟨w, Below.refl _ _⟩⟩
def Later.on {w : World} (x : Later w) {W : World} (h : Below x.1.heap.size x.1 W) : Later w := ⟨W, x.2.trans (h.mono x.2.size)⟩

theorem wp_region_later {P : Program} {id : Nat} {Q : Exit → Act → World → Prop} {a : Act} {w : World} {l : List Oper} (hm : P.follows .mixedOrders = true) (hB : Region.lexB .any l.toArray = true)
    (h : wpQuiet P l.toArray (fun w' => ∃ x : Later w, w' = x.1) (fun a' => ∀ x : Later w, Q .normal a' x.1) l a) : (Code.region id l.toArray true).wp P Q a w := by
  refine wp_region_quiet (C := fun w' => ∃ x : Later w, w' = x.1) hm hB ⟨⟨w.drew, (Below.refl _ _).drew⟩, rfl⟩ ?_
  have mono : ∀ (m : List Oper) (b : Act), wpQuiet P l.toArray (fun w' => ∃ x : Later w, w' = x.1) (fun a' => ∀ x : Later w, Q .normal a' x.1) m b →
      wpQuiet P l.toArray (fun w' => ∃ x : Later w, w' = x.1) (fun a' => ∀ w', (∃ x : Later w, w' = x.1) → Q .normal a' w') m b := by
    intro m
    induction m with
    | nil => rintro b hb w' ⟨x, rfl⟩; exact hb x
    | cons o r ih =>
      intro b hb
      unfold wpQuiet at hb ⊢
      split
      · rename_i hw
        rw [if_pos hw] at hb
        obtain ⟨v, h1, h2⟩ := hb
        exact ⟨v, h1, ih _ h2⟩
      · rename_i hw
        rw [if_neg hw] at hb
        exact ih _ hb
  simpa using mono l a h

theorem later_call {P : Program} {f : FuncId} {args : Array Value} {w : World} {x : Later w} {v : Value} (h : Calls P f args x.1 fun e w' => e = .returned v ∧ Below x.1.heap.size x.1 w') :
    Calls P f args x.1 fun e w'' => e = .returned v ∧ ∃ y : Later w, w'' = y.1 :=
  h.mono fun _ _ ⟨he, hb⟩ => ⟨he, x.on hb, rfl⟩
theorem later_same {P : Program} {f : FuncId} {args : Array Value} {w : World} {x : Later w} {v : Value} (h : Calls P f args x.1 fun e w' => e = .returned v ∧ x.1 = w') :
    Calls P f args x.1 fun e w'' => e = .returned v ∧ ∃ y : Later w, w'' = y.1 :=
  h.mono fun _ _ ⟨he, hb⟩ => ⟨he, x, hb.symm⟩
end Go.My
