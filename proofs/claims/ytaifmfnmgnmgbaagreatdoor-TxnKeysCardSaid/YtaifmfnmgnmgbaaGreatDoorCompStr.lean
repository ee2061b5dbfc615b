/- slices.Compact of strings: the shelf's contract at this dump, in plain words (written by the kit's tool lay-plain). -/
import Derived.Shelf.SlicesG.Cells
import Derived.Sort.OwnSorted
import Derived.Lib.OwnBridge
import Derived.Test.YtaifmfnmgnmgbaaGreatDoorProg
import Derived.Test.YtaifmfnmgnmgbaaGreatDoorBase
namespace Go.Proofs.YtaifmfnmgnmgbaaGreatDoor
open Go.Shelf
def compactStr_ren : Go.Shelf.Ren := ⟨fun | 44 => 44 | n => n, fun | 25 => 43 | 26 => 9 | 3 => 3 | 4 => 4 | 0 => 0 | n => n, fun | n => n⟩
theorem compactStr : Go.Proofs.SlLaysN.n44 Tryz.prog compactStr_ren := {
  mixed := by kernel_rfl
  f44 := ⟨Tryz.f44.name, by decide, Tryz.func44.trans (congrArg some (by kernel_rfl))⟩
  t0 := Tryz.underlying0
  a0 := Tryz.isAgg0
  z0 := Tryz.sizeOf0
  v0 := Tryz.zeroValue0
  t3 := Tryz.underlying3
  a3 := Tryz.isAgg3
  z3 := Tryz.sizeOf3
  v3 := Tryz.zeroValue3
  t4 := Tryz.underlying4
  a4 := Tryz.isAgg4
  z4 := Tryz.sizeOf4
  v4 := Tryz.zeroValue4
  t25 := Tryz.underlying43
  a25 := Tryz.isAgg43
  z25 := Tryz.sizeOf43
  v25 := Tryz.zeroValue43
  t26 := Tryz.underlying9
  a26 := Tryz.isAgg9
  z26 := Tryz.sizeOf9
  v26 := Tryz.zeroValue9
  i26 := by kernel_rfl }
open Go.My Go.Sort Go.RowKit
theorem enc_strs (l : List ByteArray) : (l.map (·.data.toList)).map encStr = l.map Value.string := by
  rw [List.map_map]
  refine List.map_congr_left fun x _ => ?_
  cases x
  simp [encStr]
theorem enc_back (l : List (List UInt8)) : (l.map fun x => (⟨x.toArray⟩ : ByteArray)).map Value.string = l.map encStr := by
  rw [List.map_map]
  rfl
/-- slices.Compact, of strings in a row of a call's own -/
theorem compact_str {base : Nat} {v : Value} {ss : List (List UInt8)} {w : World} (h : w.ownsRow base 9 1 v ss.length (ss.map encStr)) (hl : ss.length < 4611686018427387904) :
    Calls Tryz.prog 44 #[v] w fun e w' => ∃ v', e = .returned v' ∧ w'.ownsRow base 9 1 v' (Lib.compact ss).length ((Lib.compact ss).map encStr) ∧ ∀ w0, Below base w0 w → Below base w0 w' := by
  rcases h.2 with ⟨rfl, h0⟩ | ⟨g, cap, cur, rfl, hbase, hb, h1, h2, h3, h4⟩
  · have hl0 : ss = [] := List.eq_nil_of_length_eq_zero h0
    subst hl0
    refine (AnyG.slices_Compact_string_empty compactStr none 0 w).mono ?_
    rintro e w' ⟨rfl, rfl⟩
    exact ⟨_, rfl, h, fun _ hb => hb⟩
  · have hle := Lib.compact_length_le ss
    have hH : Holds encStr w g 0 ss.toArray := holds_of_block hb (by simpa using h4)
    refine (AnyG.slices_Compact_string compactStr g 0 cap ss w hH (by omega) h1).mono ?_
    rintro e w' ⟨rfl, q, rfl⟩
    refine ⟨_, rfl, ?_, fun w0 hb0 => Lib.below_putRow hb0 hbase⟩
    have hc := Lib.ownsRow_putRow (q := q) (k := (Lib.compact ss).length) (ys := Lib.compact ss ++ List.replicate (ss.length - (Lib.compact ss).length) []) h (by simp; omega) hle
    rw [List.take_left] at hc
    exact hc
end Go.Proofs.YtaifmfnmgnmgbaaGreatDoor
