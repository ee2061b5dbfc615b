/- A route: the arguments opened. -/
import Derived.Test.YtemgcliihbjjiaaDoorRat
import Derived.Test.YtemgcliihbjjiaaDoorSized
namespace Go.Proofs.YtemgcliihbjjiaaDoor
open Go.RowKit Go.My Go.Deep
/-- a move that a law is handed: a range and a shard -/
structure Mv where
  fr : ByteArray
  tt : ByteArray
  sh : Int
def mvL (x : Mv) : List Value := [.string x.fr, .string x.tt, .int .i64 x.sh]
def kyL (x : ByteArray) : List Value := [.string x]
theorem three3 {α : Type} : ∀ {l : List α}, l.length = 3 → ∃ a b c, l = [a, b, c]
  | [a, b, c], _ => ⟨a, b, c, rfl⟩
theorem one1 {α : Type} : ∀ {l : List α}, l.length = 1 → ∃ a, l = [a]
  | [a], _ => ⟨a, rfl⟩
section
variable {H : Type} {enc : TypeId × Value → H} {w : World} {base : Nat} {spare : Nat → Bool} {held : Bool}
set_option maxRecDepth 100000 in
theorem open_pcs {fuel len cap : Nat} {a : Option Addr} {x : DataW H × List MemPlace} (h : DataW.trod enc Tryd.prog w base spare held fuel 22 [.slice a len cap] = some x) (hx : Within Tryd.prog 22 x.1) :
    ∃ L : List Pc, L.length = len ∧ SrcAny w a cap L ∧ (L.length : Int) ≤ 70368744177664 := by
  have hnil : a = none → cap = 0 := by
    rcases open_slice Tryd.underlying22 h with ⟨h0, _⟩ | ⟨ad, len', cap', m, n, D, Pl, hcs, _⟩
    · intro _
      simp at h0
      exact h0.2.2
    · intro h
      simp at hcs
      rw [h] at hcs
      cases hcs.1
  obtain ⟨L, h1, h4, h5, h2, h3⟩ := open_listB (R := fun _ cs (e : Pc) => cs = pcL e) (c := 3) Tryd.underlying22 (by kernel_rfl) (by omega) (fun n cs d hl hd _ => by
    obtain ⟨v0, v1, v2, rfl⟩ := three3 hl
    have hone : oneCellFields Tryd.prog (Tryd.prog.fieldsOf 35) = true := by kernel_rfl
    have hfs : Tryd.prog.underlying 35 = some (.struct (Tryd.prog.fieldsOf 35)) := by kernel_rfl
    obtain ⟨z0, rfl, s0⟩ := field_string hfs hone hd 0 _ v0 rfl rfl Tryd.underlying9
    obtain ⟨z1, rfl, s1⟩ := field_int hfs hone hd 1 _ v1 rfl rfl Tryd.underlying3
    obtain ⟨z2, rfl, _⟩ := field_int hfs hone hd 2 _ v2 rfl rfl Tryd.underlying2
    exact ⟨⟨z0, z1, z2⟩, rfl⟩) h hx
  have hb : Tryd.prog.bytesOf 35 = 32 := by kernel_rfl
  rw [hb] at h2
  unfold reachBytes at h2
  refine ⟨L, h1, ⟨fun i e hi => ?_, hnil, by omega, h5⟩, by omega⟩
  obtain ⟨b, off, cs, p1, p2, p3, p4, rfl⟩ := h3 i e hi
  exact ⟨b, off, p1, p2, p4⟩
set_option maxRecDepth 100000 in
theorem open_mvs {fuel len cap : Nat} {a : Option Addr} {x : DataW H × List MemPlace} (h : DataW.trod enc Tryd.prog w base spare held fuel 23 [.slice a len cap] = some x) (hx : Within Tryd.prog 23 x.1) :
    ∃ L : List Mv, L.length = len ∧ Lies w a 3 mvL L ∧ (L.length : Int) ≤ 70368744177664 := by
  obtain ⟨L, h1, h4, h5, h2, h3⟩ := open_listB (R := fun _ cs (e : Mv) => cs = mvL e) (c := 3) Tryd.underlying23 (by kernel_rfl) (by omega) (fun n cs d hl hd _ => by
    obtain ⟨v0, v1, v2, rfl⟩ := three3 hl
    have hone : oneCellFields Tryd.prog (Tryd.prog.fieldsOf 25) = true := by kernel_rfl
    have hfs : Tryd.prog.underlying 25 = some (.struct (Tryd.prog.fieldsOf 25)) := by kernel_rfl
    obtain ⟨z0, rfl, s0⟩ := field_string hfs hone hd 0 _ v0 rfl rfl Tryd.underlying9
    obtain ⟨z1, rfl, s1⟩ := field_string hfs hone hd 1 _ v1 rfl rfl Tryd.underlying9
    obtain ⟨z2, rfl, _⟩ := field_int hfs hone hd 2 _ v2 rfl rfl Tryd.underlying3
    exact ⟨⟨z0, z1, z2⟩, rfl⟩) h hx
  have hb : Tryd.prog.bytesOf 25 = 40 := by kernel_rfl
  rw [hb] at h2
  unfold reachBytes at h2
  refine ⟨L, h1, fun i e hi => ?_, by omega⟩
  obtain ⟨b, off, cs, p1, p2, p3, p4, rfl⟩ := h3 i e hi
  exact ⟨b, off, p1, p2, p4⟩
set_option maxRecDepth 100000 in
theorem open_keys {fuel len cap : Nat} {a : Option Addr} {x : DataW H × List MemPlace} (h : DataW.trod enc Tryd.prog w base spare held fuel 26 [.slice a len cap] = some x) (hx : Within Tryd.prog 26 x.1) :
    ∃ L : List ByteArray, L.length = len ∧ Lies w a 1 kyL L ∧ (L.length : Int) ≤ 70368744177664 := by
  obtain ⟨L, h1, h4, h5, h2, h3⟩ := open_listB (R := fun _ cs (e : ByteArray) => cs = kyL e) (c := 1) Tryd.underlying26 (by kernel_rfl) (by omega) (fun n cs d hl hd _ => by
    obtain ⟨v0, rfl⟩ := one1 hl
    obtain ⟨z, hz, _, _⟩ := DataW.trod_string Tryd.underlying9 hd
    exact ⟨z, hz⟩) h hx
  have hb : Tryd.prog.bytesOf 9 = 16 := by kernel_rfl
  rw [hb] at h2
  unfold reachBytes at h2
  refine ⟨L, h1, fun i e hi => ?_, by omega⟩
  obtain ⟨b, off, cs, p1, p2, p3, p4, rfl⟩ := h3 i e hi
  exact ⟨b, off, p1, p2, p4⟩
set_option maxRecDepth 100000 in
/-- a move by value -/
theorem open_mv {fuel : Nat} {cs : Array Value} {x : DataW H × List MemPlace} (hc : cs.size = Tryd.prog.cellsOf 25) (h : DataW.trod enc Tryd.prog w base spare held fuel 25 cs.toList = some x) (_ : Within Tryd.prog 25 x.1) :
    ∃ z : Mv, cs = #[.string z.fr, .string z.tt, .int .i64 z.sh] ∧ True := by
  have hl : cs.toList.length = 3 := by
    have : Tryd.prog.cellsOf 25 = 3 := by kernel_rfl
    rw [Array.length_toList, hc, this]
  obtain ⟨v0, v1, v2, hv⟩ := three3 hl
  rw [hv] at h
  have hone : oneCellFields Tryd.prog (Tryd.prog.fieldsOf 25) = true := by kernel_rfl
  have hfs : Tryd.prog.underlying 25 = some (.struct (Tryd.prog.fieldsOf 25)) := by kernel_rfl
  obtain ⟨z0, rfl, s0⟩ := field_string hfs hone h 0 _ v0 rfl rfl Tryd.underlying9
  obtain ⟨z1, rfl, s1⟩ := field_string hfs hone h 1 _ v1 rfl rfl Tryd.underlying9
  obtain ⟨z2, rfl, _⟩ := field_int hfs hone h 2 _ v2 rfl rfl Tryd.underlying3
  refine ⟨⟨z0, z1, z2⟩, ?_, trivial⟩
  cases cs
  simpa using hv
end
end Go.Proofs.YtemgcliihbjjiaaDoor
