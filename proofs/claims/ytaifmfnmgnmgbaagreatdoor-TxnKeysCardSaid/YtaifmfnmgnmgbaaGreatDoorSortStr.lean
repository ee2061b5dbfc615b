/- slices.Sort of strings: the shelf's contract at this dump, in plain words (written by the kit's tool lay-plain). -/
import Derived.Shelf.SortM.Plain
import Derived.Shelf.SortM.SortNone
import Derived.Sort.OwnSorted
import Derived.Test.YtaifmfnmgnmgbaaGreatDoorProg
import Derived.Test.YtaifmfnmgnmgbaaGreatDoorBase
namespace Go.Proofs.YtaifmfnmgnmgbaaGreatDoor
open Go.Shelf
def sortStr_ren : Go.Shelf.Ren := ⟨fun | 6 => 43 | 8 => 79 | 9 => 78 | 19 => 113 | 20 => 114 | 21 => 104 | 22 => 105 | 23 => 106 | 24 => 107 | 25 => 108 | 26 => 109 | 27 => 110 | 28 => 111 | 29 => 112 | 36 => 131 | 31 => 132 | 32 => 133 | 37 => 134 | 38 => 135 | 39 => 136 | 41 => 142 | n => n, fun | 27 => 43 | 29 => 9 | 3 => 3 | 32 => 136 | 26 => 43 | 0 => 0 | 44 => 180 | 46 => 182 | 4 => 4 | 36 => 173 | 35 => 172 | 41 => 101 | 5 => 5 | 9 => 9 | 53 => 205 | 57 => 209 | 63 => 214 | 64 => 215 | n => n, fun | n => n⟩
theorem sortStr : Go.Proofs.SlLaysM.n6 Tryz.prog sortStr_ren := {
  mixed := by kernel_rfl
  f6 := ⟨Tryz.f43.name, by decide, Tryz.func43.trans (congrArg some (by kernel_rfl))⟩
  f8 := Tryz.func79.trans (congrArg some (by kernel_rfl))
  f9 := ⟨Tryz.f78.name, by decide, Tryz.func78.trans (congrArg some (by kernel_rfl))⟩
  f19 := Tryz.func113.trans (congrArg some (by kernel_rfl))
  f20 := Tryz.func114.trans (congrArg some (by kernel_rfl))
  f21 := ⟨Tryz.f104.name, by decide, Tryz.func104.trans (congrArg some (by kernel_rfl))⟩
  f22 := ⟨Tryz.f105.name, by decide, Tryz.func105.trans (congrArg some (by kernel_rfl))⟩
  f23 := ⟨Tryz.f106.name, by decide, Tryz.func106.trans (congrArg some (by kernel_rfl))⟩
  f24 := ⟨Tryz.f107.name, by decide, Tryz.func107.trans (congrArg some (by kernel_rfl))⟩
  f25 := ⟨Tryz.f108.name, by decide, Tryz.func108.trans (congrArg some (by kernel_rfl))⟩
  f26 := ⟨Tryz.f109.name, by decide, Tryz.func109.trans (congrArg some (by kernel_rfl))⟩
  f27 := ⟨Tryz.f110.name, by decide, Tryz.func110.trans (congrArg some (by kernel_rfl))⟩
  f28 := ⟨Tryz.f111.name, by decide, Tryz.func111.trans (congrArg some (by kernel_rfl))⟩
  f29 := ⟨Tryz.f112.name, by decide, Tryz.func112.trans (congrArg some (by kernel_rfl))⟩
  f31 := Tryz.func132.trans (congrArg some (by kernel_rfl))
  f32 := Tryz.func133.trans (congrArg some (by kernel_rfl))
  f36 := ⟨Tryz.f131.name, by decide, Tryz.func131.trans (congrArg some (by kernel_rfl))⟩
  f37 := ⟨Tryz.f134.name, by decide, Tryz.func134.trans (congrArg some (by kernel_rfl))⟩
  f38 := ⟨Tryz.f135.name, by decide, Tryz.func135.trans (congrArg some (by kernel_rfl))⟩
  f39 := ⟨Tryz.f136.name, by decide, Tryz.func136.trans (congrArg some (by kernel_rfl))⟩
  f41 := ⟨Tryz.f142.name, by decide, Tryz.func142.trans (congrArg some (by kernel_rfl))⟩
  t0 := Tryz.underlying0
  a0 := Tryz.isAgg0
  z0 := Tryz.sizeOf0
  v0 := Tryz.zeroValue0
  t3 := Tryz.underlying3
  a3 := Tryz.isAgg3
  z3 := Tryz.sizeOf3
  v3 := Tryz.zeroValue3
  t4 := Tryz.underlying4
  a4 := Tryz.isAgg4
  z4 := Tryz.sizeOf4
  v4 := Tryz.zeroValue4
  t5 := Tryz.underlying5
  a5 := Tryz.isAgg5
  z5 := Tryz.sizeOf5
  v5 := Tryz.zeroValue5
  t9 := Tryz.underlying9
  a9 := Tryz.isAgg9
  z9 := Tryz.sizeOf9
  v9 := Tryz.zeroValue9
  t26 := Tryz.underlying43
  a26 := Tryz.isAgg43
  z26 := Tryz.sizeOf43
  v26 := Tryz.zeroValue43
  t27 := Tryz.underlying43
  a27 := Tryz.isAgg43
  z27 := Tryz.sizeOf43
  v27 := Tryz.zeroValue43
  t29 := Tryz.underlying9
  a29 := Tryz.isAgg9
  z29 := Tryz.sizeOf9
  v29 := Tryz.zeroValue9
  t32 := Tryz.underlying136
  a32 := Tryz.isAgg136
  z32 := Tryz.sizeOf136
  v32 := Tryz.zeroValue136
  t35 := Tryz.underlying172
  a35 := Tryz.isAgg172
  z35 := Tryz.sizeOf172
  v35 := Tryz.zeroValue172
  t36 := Tryz.underlying173
  a36 := Tryz.isAgg173
  z36 := Tryz.sizeOf173
  v36 := Tryz.zeroValue173
  t41 := Tryz.underlying101
  a41 := Tryz.isAgg101
  z41 := Tryz.sizeOf101
  v41 := Tryz.zeroValue101
  t44 := Tryz.underlying180
  a44 := Tryz.isAgg180
  z44 := Tryz.sizeOf180
  v44 := Tryz.zeroValue180
  t46 := Tryz.underlying182
  a46 := Tryz.isAgg182
  z46 := Tryz.sizeOf182
  v46 := Tryz.zeroValue182
  t53 := Tryz.underlying205
  a53 := Tryz.isAgg205
  z53 := Tryz.sizeOf205
  v53 := Tryz.zeroValue205
  t57 := Tryz.underlying209
  a57 := Tryz.isAgg209
  z57 := Tryz.sizeOf209
  v57 := Tryz.zeroValue209
  t63 := Tryz.underlying214
  a63 := Tryz.isAgg214
  z63 := Tryz.sizeOf214
  v63 := Tryz.zeroValue214
  t64 := Tryz.underlying215
  a64 := Tryz.isAgg215
  z64 := Tryz.sizeOf215
  v64 := Tryz.zeroValue215 }
open Go.My Go.Sort Go.RowKit
theorem enc_bytes (l : List ByteArray) : (l.map (·.data.toList)).map encStr = l.map Value.string := by
  rw [List.map_map]
  refine List.map_congr_left fun x _ => ?_
  cases x
  simp [encStr]
theorem enc_sorted (l : List ByteArray) : ((l.map (·.data.toList)).mergeSort fun x y => decide (x ≤ y)).map encStr = (sortB l).map Value.string := by
  unfold sortB
  rw [List.map_map]
  rfl
/-- slices.Sort, of strings in a row of a call's own -/
theorem sort_str {base : Nat} {v : Value} {l : List ByteArray} {w : World} (h : w.ownsRow base 9 1 v l.length (l.map Value.string)) (hl : l.length < 4611686018427387904) :
    Calls Tryz.prog 43 #[v] w fun e w' => e = .returned (.tuple #[]) ∧ w'.ownsRow base 9 1 v l.length ((sortB l).map Value.string) ∧ w.grownBy w' v.ownBlock := by
  rcases h.2 with ⟨rfl, h0⟩ | ⟨g, cap, cur, rfl, hbase, hb, h1, h2, h3, h4⟩
  · have hl0 : l = [] := List.eq_nil_of_length_eq_zero h0
    subst hl0
    refine (AnyM.slices_Sort_string_none sortStr none 0 w).mono ?_
    rintro e w' ⟨rfl, rfl⟩
    refine ⟨rfl, ?_, ⟨rfl, rfl, rfl, Nat.le_refl _, fun _ _ _ => rfl⟩⟩
    rw [show sortB [] = [] from List.eq_nil_of_length_eq_zero (length_sortB [])]
    exact h
  · have hH : Holds encStr w g 0 (l.map (·.data.toList)).toArray := holds_of_block hb (by rw [enc_bytes, List.length_map]; simpa using h4)
    have hc := AnyM.slices_Sort_string sortStr g 0 cap (l.map (·.data.toList)) w hH (lt_of_heap hb) (by simpa using hl)
    rw [List.length_map] at hc
    refine hc.mono ?_
    rintro e w' ⟨rfl, n, os, rfl⟩
    refine ⟨rfl, ?_, grownBy_sorted _⟩
    have := ownsRow_sorted (n := n) (os := os) (ss := l.map (·.data.toList)) (ts := (l.map (·.data.toList)).mergeSort fun x y => decide (x ≤ y)) (by simp) hbase hb (by simpa using h1) h2 h3
    rw [enc_sorted, List.length_map] at this
    exact this
end Go.Proofs.YtaifmfnmgnmgbaaGreatDoor
