/- slices.Sort of strings: the shelf's contract at this dump, in plain words (written by the kit's tool lay-plain). -/
import Derived.Shelf.SortM.Plain
import Derived.Shelf.SortM.SortNone
import Derived.Sort.OwnSorted
import Derived.Test.YtfojgghnkjmjhaaProg
import Derived.Test.YtfojgghnkjmjhaaLies
import Derived.Test.YtfojgghnkjmjhaaStrs
namespace Go.Proofs.Ytfojgghnkjmjhaa
open Go.Shelf
def sortStr_ren : Go.Shelf.Ren := ⟨fun | 6 => 19 | 8 => 24 | 9 => 23 | 19 => 34 | 20 => 35 | 21 => 25 | 22 => 26 | 23 => 27 | 24 => 28 | 25 => 29 | 26 => 30 | 27 => 31 | 28 => 32 | 29 => 33 | 36 => 36 | 31 => 37 | 32 => 38 | 37 => 39 | 38 => 40 | 39 => 41 | 41 => 42 | n => n, fun | 27 => 23 | 29 => 9 | 3 => 3 | 32 => 55 | 26 => 23 | 0 => 0 | 44 => 68 | 46 => 70 | 4 => 4 | 36 => 62 | 35 => 61 | 41 => 35 | 5 => 5 | 9 => 9 | 53 => 71 | 57 => 75 | 63 => 78 | 64 => 79 | n => n, fun | n => n⟩
theorem sortStr : Go.Proofs.SlLaysM.n6 Try.prog sortStr_ren := {
  mixed := by kernel_rfl
  f6 := ⟨Try.f19.name, by decide, Try.func19.trans (congrArg some (by kernel_rfl))⟩
  f8 := Try.func24.trans (congrArg some (by kernel_rfl))
  f9 := ⟨Try.f23.name, by decide, Try.func23.trans (congrArg some (by kernel_rfl))⟩
  f19 := Try.func34.trans (congrArg some (by kernel_rfl))
  f20 := Try.func35.trans (congrArg some (by kernel_rfl))
  f21 := ⟨Try.f25.name, by decide, Try.func25.trans (congrArg some (by kernel_rfl))⟩
  f22 := ⟨Try.f26.name, by decide, Try.func26.trans (congrArg some (by kernel_rfl))⟩
  f23 := ⟨Try.f27.name, by decide, Try.func27.trans (congrArg some (by kernel_rfl))⟩
  f24 := ⟨Try.f28.name, by decide, Try.func28.trans (congrArg some (by kernel_rfl))⟩
  f25 := ⟨Try.f29.name, by decide, Try.func29.trans (congrArg some (by kernel_rfl))⟩
  f26 := ⟨Try.f30.name, by decide, Try.func30.trans (congrArg some (by kernel_rfl))⟩
  f27 := ⟨Try.f31.name, by decide, Try.func31.trans (congrArg some (by kernel_rfl))⟩
  f28 := ⟨Try.f32.name, by decide, Try.func32.trans (congrArg some (by kernel_rfl))⟩
  f29 := ⟨Try.f33.name, by decide, Try.func33.trans (congrArg some (by kernel_rfl))⟩
  f31 := Try.func37.trans (congrArg some (by kernel_rfl))
  f32 := Try.func38.trans (congrArg some (by kernel_rfl))
  f36 := ⟨Try.f36.name, by decide, Try.func36.trans (congrArg some (by kernel_rfl))⟩
  f37 := ⟨Try.f39.name, by decide, Try.func39.trans (congrArg some (by kernel_rfl))⟩
  f38 := ⟨Try.f40.name, by decide, Try.func40.trans (congrArg some (by kernel_rfl))⟩
  f39 := ⟨Try.f41.name, by decide, Try.func41.trans (congrArg some (by kernel_rfl))⟩
  f41 := ⟨Try.f42.name, by decide, Try.func42.trans (congrArg some (by kernel_rfl))⟩
  t0 := Try.underlying0
  a0 := Try.isAgg0
  z0 := Try.sizeOf0
  v0 := Try.zeroValue0
  t3 := Try.underlying3
  a3 := Try.isAgg3
  z3 := Try.sizeOf3
  v3 := Try.zeroValue3
  t4 := Try.underlying4
  a4 := Try.isAgg4
  z4 := Try.sizeOf4
  v4 := Try.zeroValue4
  t5 := Try.underlying5
  a5 := Try.isAgg5
  z5 := Try.sizeOf5
  v5 := Try.zeroValue5
  t9 := Try.underlying9
  a9 := Try.isAgg9
  z9 := Try.sizeOf9
  v9 := Try.zeroValue9
  t26 := Try.underlying23
  a26 := Try.isAgg23
  z26 := Try.sizeOf23
  v26 := Try.zeroValue23
  t27 := Try.underlying23
  a27 := Try.isAgg23
  z27 := Try.sizeOf23
  v27 := Try.zeroValue23
  t29 := Try.underlying9
  a29 := Try.isAgg9
  z29 := Try.sizeOf9
  v29 := Try.zeroValue9
  t32 := Try.underlying55
  a32 := Try.isAgg55
  z32 := Try.sizeOf55
  v32 := Try.zeroValue55
  t35 := Try.underlying61
  a35 := Try.isAgg61
  z35 := Try.sizeOf61
  v35 := Try.zeroValue61
  t36 := Try.underlying62
  a36 := Try.isAgg62
  z36 := Try.sizeOf62
  v36 := Try.zeroValue62
  t41 := Try.underlying35
  a41 := Try.isAgg35
  z41 := Try.sizeOf35
  v41 := Try.zeroValue35
  t44 := Try.underlying68
  a44 := Try.isAgg68
  z44 := Try.sizeOf68
  v44 := Try.zeroValue68
  t46 := Try.underlying70
  a46 := Try.isAgg70
  z46 := Try.sizeOf70
  v46 := Try.zeroValue70
  t53 := Try.underlying71
  a53 := Try.isAgg71
  z53 := Try.sizeOf71
  v53 := Try.zeroValue71
  t57 := Try.underlying75
  a57 := Try.isAgg75
  z57 := Try.sizeOf75
  v57 := Try.zeroValue75
  t63 := Try.underlying78
  a63 := Try.isAgg78
  z63 := Try.sizeOf78
  v63 := Try.zeroValue78
  t64 := Try.underlying79
  a64 := Try.isAgg79
  z64 := Try.sizeOf79
  v64 := Try.zeroValue79 }
open Go.My Go.Sort Go.RowKit
theorem enc_bytes (l : List ByteArray) : (l.map (·.data.toList)).map encStr = l.map Value.string := by
  rw [List.map_map]
  refine List.map_congr_left fun x _ => ?_
  cases x
  simp [encStr]
theorem enc_sorted (l : List ByteArray) : ((l.map (·.data.toList)).mergeSort fun x y => decide (x ≤ y)).map encStr = (sortB l).map Value.string := by
  unfold sortB
  rw [List.map_map]
  rfl
/-- slices.Sort, of strings in a row of a call's own -/
theorem sort_str {base : Nat} {v : Value} {l : List ByteArray} {w : World} (h : w.ownsRow base 9 1 v l.length (l.map Value.string)) (hl : l.length < 4611686018427387904) :
    Calls Try.prog 19 #[v] w fun e w' => e = .returned (.tuple #[]) ∧ w'.ownsRow base 9 1 v l.length ((sortB l).map Value.string) ∧ w.grownBy w' v.ownBlock := by
  rcases h.2 with ⟨rfl, h0⟩ | ⟨g, cap, cur, rfl, hbase, hb, h1, h2, h3, h4⟩
  · have hl0 : l = [] := List.eq_nil_of_length_eq_zero h0
    subst hl0
    refine (AnyM.slices_Sort_string_none sortStr none 0 w).mono ?_
    rintro e w' ⟨rfl, rfl⟩
    refine ⟨rfl, ?_, ⟨rfl, rfl, rfl, Nat.le_refl _, fun _ _ _ => rfl⟩⟩
    rw [show sortB [] = [] from List.eq_nil_of_length_eq_zero (length_sortB [])]
    exact h
  · have hH : Holds encStr w g 0 (l.map (·.data.toList)).toArray := holds_of_block hb (by rw [enc_bytes, List.length_map]; simpa using h4)
    have hc := AnyM.slices_Sort_string sortStr g 0 cap (l.map (·.data.toList)) w hH (lt_of_heap hb) (by simpa using hl)
    rw [List.length_map] at hc
    refine hc.mono ?_
    rintro e w' ⟨rfl, n, os, rfl⟩
    refine ⟨rfl, ?_, grownBy_sorted _⟩
    have := ownsRow_sorted (n := n) (os := os) (ss := l.map (·.data.toList)) (ts := (l.map (·.data.toList)).mergeSort fun x y => decide (x ≤ y)) (by simp) hbase hb (by simpa using h1) h2 h3
    rw [enc_sorted, List.length_map] at this
    exact this
end Go.Proofs.Ytfojgghnkjmjhaa
