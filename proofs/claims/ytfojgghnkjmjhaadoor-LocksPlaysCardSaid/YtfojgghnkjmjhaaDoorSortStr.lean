/- slices.Sort of strings: the shelf's contract at this dump, in plain words (written by the kit's tool lay-plain). -/
import Derived.Shelf.SortM.Plain
import Derived.Shelf.SortM.SortNone
import Derived.Sort.OwnSorted
import Derived.Test.YtfojgghnkjmjhaaDoorProg
import Derived.Test.YtfojgghnkjmjhaaDoorLies
import Derived.Test.YtfojgghnkjmjhaaDoorStrs
namespace Go.Proofs.YtfojgghnkjmjhaaDoor
open Go.Shelf
def sortStr_ren : Go.Shelf.Ren := ⟨fun | 6 => 28 | 8 => 37 | 9 => 36 | 19 => 50 | 20 => 51 | 21 => 41 | 22 => 42 | 23 => 43 | 24 => 44 | 25 => 45 | 26 => 46 | 27 => 47 | 28 => 48 | 29 => 49 | 36 => 52 | 31 => 53 | 32 => 54 | 37 => 55 | 38 => 56 | 39 => 57 | 41 => 58 | n => n, fun | 27 => 31 | 29 => 9 | 3 => 3 | 32 => 87 | 26 => 31 | 0 => 0 | 44 => 110 | 46 => 112 | 4 => 4 | 36 => 104 | 35 => 103 | 41 => 51 | 5 => 5 | 9 => 9 | 53 => 113 | 57 => 117 | 63 => 120 | 64 => 121 | n => n, fun | n => n⟩
theorem sortStr : Go.Proofs.SlLaysM.n6 Tryd.prog sortStr_ren := {
  mixed := by kernel_rfl
  f6 := ⟨Tryd.f28.name, by decide, Tryd.func28.trans (congrArg some (by kernel_rfl))⟩
  f8 := Tryd.func37.trans (congrArg some (by kernel_rfl))
  f9 := ⟨Tryd.f36.name, by decide, Tryd.func36.trans (congrArg some (by kernel_rfl))⟩
  f19 := Tryd.func50.trans (congrArg some (by kernel_rfl))
  f20 := Tryd.func51.trans (congrArg some (by kernel_rfl))
  f21 := ⟨Tryd.f41.name, by decide, Tryd.func41.trans (congrArg some (by kernel_rfl))⟩
  f22 := ⟨Tryd.f42.name, by decide, Tryd.func42.trans (congrArg some (by kernel_rfl))⟩
  f23 := ⟨Tryd.f43.name, by decide, Tryd.func43.trans (congrArg some (by kernel_rfl))⟩
  f24 := ⟨Tryd.f44.name, by decide, Tryd.func44.trans (congrArg some (by kernel_rfl))⟩
  f25 := ⟨Tryd.f45.name, by decide, Tryd.func45.trans (congrArg some (by kernel_rfl))⟩
  f26 := ⟨Tryd.f46.name, by decide, Tryd.func46.trans (congrArg some (by kernel_rfl))⟩
  f27 := ⟨Tryd.f47.name, by decide, Tryd.func47.trans (congrArg some (by kernel_rfl))⟩
  f28 := ⟨Tryd.f48.name, by decide, Tryd.func48.trans (congrArg some (by kernel_rfl))⟩
  f29 := ⟨Tryd.f49.name, by decide, Tryd.func49.trans (congrArg some (by kernel_rfl))⟩
  f31 := Tryd.func53.trans (congrArg some (by kernel_rfl))
  f32 := Tryd.func54.trans (congrArg some (by kernel_rfl))
  f36 := ⟨Tryd.f52.name, by decide, Tryd.func52.trans (congrArg some (by kernel_rfl))⟩
  f37 := ⟨Tryd.f55.name, by decide, Tryd.func55.trans (congrArg some (by kernel_rfl))⟩
  f38 := ⟨Tryd.f56.name, by decide, Tryd.func56.trans (congrArg some (by kernel_rfl))⟩
  f39 := ⟨Tryd.f57.name, by decide, Tryd.func57.trans (congrArg some (by kernel_rfl))⟩
  f41 := ⟨Tryd.f58.name, by decide, Tryd.func58.trans (congrArg some (by kernel_rfl))⟩
  t0 := Tryd.underlying0
  a0 := Tryd.isAgg0
  z0 := Tryd.sizeOf0
  v0 := Tryd.zeroValue0
  t3 := Tryd.underlying3
  a3 := Tryd.isAgg3
  z3 := Tryd.sizeOf3
  v3 := Tryd.zeroValue3
  t4 := Tryd.underlying4
  a4 := Tryd.isAgg4
  z4 := Tryd.sizeOf4
  v4 := Tryd.zeroValue4
  t5 := Tryd.underlying5
  a5 := Tryd.isAgg5
  z5 := Tryd.sizeOf5
  v5 := Tryd.zeroValue5
  t9 := Tryd.underlying9
  a9 := Tryd.isAgg9
  z9 := Tryd.sizeOf9
  v9 := Tryd.zeroValue9
  t26 := Tryd.underlying31
  a26 := Tryd.isAgg31
  z26 := Tryd.sizeOf31
  v26 := Tryd.zeroValue31
  t27 := Tryd.underlying31
  a27 := Tryd.isAgg31
  z27 := Tryd.sizeOf31
  v27 := Tryd.zeroValue31
  t29 := Tryd.underlying9
  a29 := Tryd.isAgg9
  z29 := Tryd.sizeOf9
  v29 := Tryd.zeroValue9
  t32 := Tryd.underlying87
  a32 := Tryd.isAgg87
  z32 := Tryd.sizeOf87
  v32 := Tryd.zeroValue87
  t35 := Tryd.underlying103
  a35 := Tryd.isAgg103
  z35 := Tryd.sizeOf103
  v35 := Tryd.zeroValue103
  t36 := Tryd.underlying104
  a36 := Tryd.isAgg104
  z36 := Tryd.sizeOf104
  v36 := Tryd.zeroValue104
  t41 := Tryd.underlying51
  a41 := Tryd.isAgg51
  z41 := Tryd.sizeOf51
  v41 := Tryd.zeroValue51
  t44 := Tryd.underlying110
  a44 := Tryd.isAgg110
  z44 := Tryd.sizeOf110
  v44 := Tryd.zeroValue110
  t46 := Tryd.underlying112
  a46 := Tryd.isAgg112
  z46 := Tryd.sizeOf112
  v46 := Tryd.zeroValue112
  t53 := Tryd.underlying113
  a53 := Tryd.isAgg113
  z53 := Tryd.sizeOf113
  v53 := Tryd.zeroValue113
  t57 := Tryd.underlying117
  a57 := Tryd.isAgg117
  z57 := Tryd.sizeOf117
  v57 := Tryd.zeroValue117
  t63 := Tryd.underlying120
  a63 := Tryd.isAgg120
  z63 := Tryd.sizeOf120
  v63 := Tryd.zeroValue120
  t64 := Tryd.underlying121
  a64 := Tryd.isAgg121
  z64 := Tryd.sizeOf121
  v64 := Tryd.zeroValue121 }
open Go.My Go.Sort Go.RowKit
theorem enc_bytes (l : List ByteArray) : (l.map (·.data.toList)).map encStr = l.map Value.string := by
  rw [List.map_map]
  refine List.map_congr_left fun x _ => ?_
  cases x
  simp [encStr]
theorem enc_sorted (l : List ByteArray) : ((l.map (·.data.toList)).mergeSort fun x y => decide (x ≤ y)).map encStr = (sortB l).map Value.string := by
  unfold sortB
  rw [List.map_map]
  rfl
/-- slices.Sort, of strings in a row of a call's own -/
theorem sort_str {base : Nat} {v : Value} {l : List ByteArray} {w : World} (h : w.ownsRow base 9 1 v l.length (l.map Value.string)) (hl : l.length < 4611686018427387904) :
    Calls Tryd.prog 28 #[v] w fun e w' => e = .returned (.tuple #[]) ∧ w'.ownsRow base 9 1 v l.length ((sortB l).map Value.string) ∧ w.grownBy w' v.ownBlock := by
  rcases h.2 with ⟨rfl, h0⟩ | ⟨g, cap, cur, rfl, hbase, hb, h1, h2, h3, h4⟩
  · have hl0 : l = [] := List.eq_nil_of_length_eq_zero h0
    subst hl0
    refine (AnyM.slices_Sort_string_none sortStr none 0 w).mono ?_
    rintro e w' ⟨rfl, rfl⟩
    refine ⟨rfl, ?_, ⟨rfl, rfl, rfl, Nat.le_refl _, fun _ _ _ => rfl⟩⟩
    rw [show sortB [] = [] from List.eq_nil_of_length_eq_zero (length_sortB [])]
    exact h
  · have hH : Holds encStr w g 0 (l.map (·.data.toList)).toArray := holds_of_block hb (by rw [enc_bytes, List.length_map]; simpa using h4)
    have hc := AnyM.slices_Sort_string sortStr g 0 cap (l.map (·.data.toList)) w hH (lt_of_heap hb) (by simpa using hl)
    rw [List.length_map] at hc
    refine hc.mono ?_
    rintro e w' ⟨rfl, n, os, rfl⟩
    refine ⟨rfl, ?_, grownBy_sorted _⟩
    have := ownsRow_sorted (n := n) (os := os) (ss := l.map (·.data.toList)) (ts := (l.map (·.data.toList)).mergeSort fun x y => decide (x ≤ y)) (by simp) hbase hb (by simpa using h1) h2 h3
    rw [enc_sorted, List.length_map] at this
    exact this
end Go.Proofs.YtfojgghnkjmjhaaDoor
