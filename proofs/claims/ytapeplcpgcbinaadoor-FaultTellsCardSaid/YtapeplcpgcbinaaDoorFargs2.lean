/- fault: the arguments opened. -/
import Derived.Test.YtapeplcpgcbinaaDoorFtells
import Derived.Test.YtapeplcpgcbinaaDoorSized
namespace Go.Proofs.YtapeplcpgcbinaaDoor
open Go.RowKit Go.My Go.Deep
section
variable {H : Type} {enc : TypeId × Value → H} {w : World} {base : Nat} {spare : Nat → Bool} {held : Bool}
set_option maxRecDepth 100000 in
theorem open_steps2 {fuel len cap : Nat} {a : Option Addr} {x : DataW H × List MemPlace} (h : DataW.trod enc Tryd.prog w base spare held fuel 23 [.slice a len cap] = some x) (hx : Within Tryd.prog 23 x.1) :
    ∃ l : List StepT, l.length = len ∧ StepsAt w a l ∧ ((l.length : Int) ≤ 70368744177664 ∧ ∀ s ∈ l, In64 s.2) := by
  obtain ⟨l, h1, _, _, h2, h3⟩ := open_listB (R := fun _ cs (s : StepT) => (cs = stepL s ∧ s.1.size ≤ maxLen) ∧ In64 s.2) (c := 2) Tryd.underlying23 (by kernel_rfl) (by omega) (fun n cs d hl hd _ => by
    obtain ⟨v0, v1, rfl⟩ : ∃ a b, cs = [a, b] := by
      match cs, hl with
      | [a, b], _ => exact ⟨a, b, rfl⟩
    have hone : oneCellFields Tryd.prog (Tryd.prog.fieldsOf 31) = true := by kernel_rfl
    have hfs : Tryd.prog.underlying 31 = some (.struct (Tryd.prog.fieldsOf 31)) := by kernel_rfl
    obtain ⟨z0, rfl, s0⟩ := field_string hfs hone hd 0 _ v0 rfl rfl Tryd.underlying9
    obtain ⟨z1, rfl, s1⟩ := field_int hfs hone hd 1 _ v1 rfl rfl Tryd.underlying3
    exact ⟨(z0, z1), ⟨rfl, s0⟩, max64 s1⟩) h hx
  have hb : Tryd.prog.bytesOf 31 = 24 := by kernel_rfl
  rw [hb] at h2
  unfold reachBytes at h2
  refine ⟨l, h1, fun i s hi => ?_, by omega, fun s hs => ?_⟩
  · obtain ⟨b, off, cs, p1, p2, p3, p4, p5⟩ := h3 i s hi
    exact ⟨b, off, cs, p1, p2, p3, p4, p5.1⟩
  · obtain ⟨i, hi⟩ := List.getElem?_of_mem hs
    obtain ⟨b, off, cs, p1, p2, p3, p4, p5⟩ := h3 i s hi
    exact p5.2
end
end Go.Proofs.YtapeplcpgcbinaaDoor
