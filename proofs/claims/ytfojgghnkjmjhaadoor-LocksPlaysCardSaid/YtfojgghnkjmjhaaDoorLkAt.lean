/- Locks in memory: New, Holder, Many, errors. -/
import Derived.Test.YtfojgghnkjmjhaaDoorChecked
import Derived.Test.YtfojgghnkjmjhaaDoorLkPlain
import Derived.Test.YtfojgghnkjmjhaaDoorGenw
import Derived.Test.YtfojgghnkjmjhaaDoorLies
import Derived.WalkSpells
import Derived.WalkLawsBesides
import Derived.Deep.QuietTactic
import Derived.BigQuiet
import Derived.StillTailTactics
import Derived.Lib.Hide
namespace Go.Proofs.YtfojgghnkjmjhaaDoor.Locks
open Go.RowKit Go.My

def sK (s : ByteArray) : Value := .string s
def iV (n : Int) : Value := .int .i64 n
theorem kStr : KeyOk Tryd.prog 9 sK := key_string Tryd.underlying9
theorem zInt (w : World) : (zeroValue 3).run Tryd.prog w = .ok (.int .i64 0) w := by kernel_rfl
structure LocksAt (w : World) (b m : Nat) (L : LMap) : Prop where
  blk : w.heap[b]? = some (.cells #[.map (some m)] 56 (0, 0))
  map : MapAt w m sK iV L
section
variable {w w' : World} {b m : Nat} {L L' : LMap}
theorem LocksAt.c0 (h : LocksAt w b m L) : w.cell? ⟨b, 0, none⟩ = some (.map (some m)) := by rw [cell_of_row w b 0 _ _ _ h.blk]; rfl
theorem LocksAt.ne (h : LocksAt w b m L) : m ≠ b := h.map.ne_cells h.blk
theorem LocksAt.below (h : LocksAt w b m L) (hb : Below w.heap.size w w') : LocksAt w' b m L :=
  ⟨(hb.block _ (lt_of_heap h.blk)).trans h.blk, h.map.keep (hb.block _ h.map.lt)⟩
theorem LocksAt.drewN (h : LocksAt w b m L) (n : Nat) : LocksAt (w.drewN n) b m L := ⟨h.blk, h.map.drewN n⟩
theorem LocksAt.set (h : LocksAt w b m L) (ht : Wrote [m] w w') (hl : MapAt w' m sK iV L') : LocksAt w' b m L' :=
  ⟨ht.heap h.blk (by simp; exact fun e => h.ne e.symm), hl⟩
end

set_option maxRecDepth 100000 in
theorem new_any (w : World) : Calls Tryd.prog 5 #[] w fun e w' => ∃ b m, e = .returned (.pointer (some ⟨b, 0, none⟩)) ∧ LocksAt w' b m [] ∧ Below w.heap.size w w' ∧ w.heap.size ≤ m := by
  have hmm := @run_makeMap Tryd.prog
  go_enter Tryd.func5, Tryd.ntmps5
  go_wp2
  go_ret
  refine ⟨w.heap.size + 1, w.heap.size, rfl, ⟨?_, ?_⟩, ?_, Nat.le_refl _⟩
  · have := heap_alloc_new (w.alloc (.map #[] 0)) (.cells #[.map (some w.heap.size)] 56)
    simpa using this
  · exact (MapAt.new w sK iV).alloc _
  · exact ((Below.refl _ _).alloc (Nat.le_refl _) _).alloc (by simp) _

/-- who has a key, as Holder says it -/
def heldI (L : LMap) (k : ByteArray) : Int := (aget L k).getD (-1)
def heldB (L : LMap) (k : ByteArray) : Bool := (aget L k).isSome
set_option maxRecDepth 100000 in
theorem holder_any (b m : Nat) (L : LMap) (k : ByteArray) (w : World) (h : LocksAt w b m L) :
    Calls Tryd.prog 20 #[.pointer (some ⟨b, 0, none⟩), .string k] w fun e w' => e = .returned (.tuple #[.int .i64 (heldI L k), .bool (heldB L k)]) ∧ w = w' := by
  have c0 := h.c0
  have hlk := h.map.lookup kStr Tryd.underlying54 (zInt w) k
  unfold heldI heldB
  cases hg : aget L k with
  | none =>
    rw [hg] at hlk
    simp only [sK, Option.map_none, Option.getD_none, Option.isSome_none] at hlk ⊢
    clear h hg
    go_enter Tryd.func20, Tryd.ntmps20
    go_wp2
    go_ret2
    exact ⟨rfl, rfl⟩
  | some x =>
    rw [hg] at hlk
    simp only [sK, iV, Option.map_some, Option.getD_some, Option.isSome_some] at hlk ⊢
    clear h hg
    go_enter Tryd.func20, Tryd.ntmps20
    go_wp2
    go_ret2
    exact ⟨rfl, rfl⟩

set_option maxRecDepth 100000 in
theorem many_any (b m : Nat) (L : LMap) (w : World) (h : LocksAt w b m L) :
    Calls Tryd.prog 18 #[.pointer (some ⟨b, 0, none⟩)] w fun e w' => e = .returned (.int .i64 (L.length : Int)) ∧ w = w' := by
  have c0 := h.c0
  have hr := lenMap_run h.map (ty := 3) Tryd.underlying54
  clear h
  go_enter Tryd.func18, Tryd.ntmps18
  go_wp2
  go_ret
  exact ⟨rfl, rfl⟩

/-! ### errors -/
def lockW : ByteArray := ⟨#[108, 111, 99, 107]⟩
def wrapV (at_ : Int) (e : Int) : Value := .iface 65 (.agg #[.string lockW, .int .i64 at_, .iface 37 (.int .i64 e)])
set_option maxRecDepth 100000 in
theorem of_any (e : Int) (w : World) (he : (e == 0) = false) : Calls Tryd.prog 30 #[.int .i64 e] w fun r w' => r = .returned (.iface 37 (.int .i64 e)) ∧ w = w' := by
  go_enter Tryd.func30, Tryd.ntmps30
  go_wp2
  go_ret
  exact ⟨rfl, rfl⟩
set_option maxRecDepth 100000 in
theorem wrap_any (e at_ : Int) (name : ByteArray) (w : World) : Calls Tryd.prog 29 #[.iface 37 (.int .i64 e), .string name, .int .i64 at_] w fun r w' => r = .returned (.iface 65 (.agg #[.string name, .int .i64 at_, .iface 37 (.int .i64 e)])) ∧ w = w' := by
  go_enter Tryd.func29, Tryd.ntmps29
  go_wp2
  go_ret
  exact ⟨rfl, rfl⟩
set_option maxRecDepth 100000 in
theorem wrong_any (e at_ : Int) (w : World) (he : (e == 0) = false) : Calls Tryd.prog 23 #[.int .i64 e, .int .i64 at_] w fun r w' => r = .returned (wrapV at_ e) ∧ w = w' := by
  have HO := Lib.hid (fun w => of_any e w he)
  have HW := Lib.hid (wrap_any e at_ ⟨#[108, 111, 99, 107]⟩)
  clear he
  unfold wrapV lockW
  go_enter Tryd.func23, Tryd.ntmps23
  go_wp2_with (first | (go_at_call 30; refine (HO.out _).mono ?_; rintro e w' ⟨rfl, rfl⟩) | (go_at_call 29; refine (HW.out _).mono ?_; rintro e w' ⟨rfl, rfl⟩))
  go_ret
  exact ⟨rfl, rfl⟩
end Go.Proofs.YtfojgghnkjmjhaaDoor.Locks
