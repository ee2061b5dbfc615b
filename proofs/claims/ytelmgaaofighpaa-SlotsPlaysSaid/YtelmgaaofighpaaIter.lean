/- The keys of the map of proofs, sorted: the shelf's contracts at this dump, in plain words (written by the kit's tool lay-plain), and what they say of a map that reads as a list. -/
import Derived.Shelf.SlIterI.Nil
import Derived.Shelf.SortM.Plain
import Derived.Shelf.SortM.SortNone
import Derived.Test.YtelmgaaofighpaaAt
import Derived.Test.YtelmgaaofighpaaKeys
namespace Go.Proofs.Ytelmgaaofighpaa
open Go.RowKit Go.Maps Go.Sort Go.Shelf Go.My
def keysA_ren : Go.Shelf.Ren := ⟨fun | 7 => 32 | 10 => 46 | n => n, fun | 23 => 59 | 26 => 2 | 3 => 44 | 28 => 69 | 0 => 0 | 27 => 68 | 33 => 36 | 4 => 4 | n => n, fun | n => n⟩
theorem keysA : Go.Proofs.SlLaysZI.n7 Try.prog keysA_ren := {
  mixed := by kernel_rfl
  f7 := ⟨Try.f32.name, by decide, Try.func32.trans (congrArg some (by kernel_rfl))⟩
  f10 := ⟨Try.f46.name, by decide, Try.func46.trans (congrArg some (by kernel_rfl))⟩
  t0 := Try.underlying0
  a0 := Try.isAgg0
  z0 := Try.sizeOf0
  v0 := Try.zeroValue0
  t4 := Try.underlying4
  a4 := Try.isAgg4
  z4 := Try.sizeOf4
  v4 := Try.zeroValue4
  t23 := Try.underlying59
  a23 := Try.isAgg59
  z23 := Try.sizeOf59
  v23 := Try.zeroValue59
  t26 := Try.underlying2
  a26 := Try.isAgg2
  z26 := Try.sizeOf2
  v26 := Try.zeroValue2
  t27 := Try.underlying68
  a27 := Try.isAgg68
  z27 := Try.sizeOf68
  v27 := Try.zeroValue68
  t28 := Try.underlying69
  a28 := Try.isAgg69
  z28 := Try.sizeOf69
  v28 := Try.zeroValue69
  t33 := Try.underlying36
  a33 := Try.isAgg36
  z33 := Try.sizeOf36
  v33 := Try.zeroValue36 }
def sortedA_ren : Go.Shelf.Ren := ⟨fun | 6 => 31 | 8 => 44 | 9 => 45 | 11 => 49 | 13 => 51 | 12 => 50 | 23 => 61 | 24 => 62 | 14 => 52 | 15 => 53 | 16 => 54 | 17 => 55 | 18 => 56 | 19 => 57 | 20 => 58 | 21 => 59 | 22 => 60 | 25 => 63 | 26 => 64 | 27 => 65 | 28 => 66 | 29 => 67 | 30 => 68 | 31 => 69 | n => n, fun | 26 => 2 | 28 => 69 | 24 => 66 | 0 => 0 | 3 => 3 | 37 => 85 | 48 => 95 | 50 => 97 | 4 => 4 | 40 => 88 | 39 => 87 | 45 => 33 | 5 => 5 | 9 => 9 | 51 => 98 | 55 => 102 | 57 => 104 | 58 => 105 | 33 => 36 | n => n, fun | n => n⟩
theorem sortedA : Go.Proofs.SlLaysZI.n6 Try.prog sortedA_ren := {
  mixed := by kernel_rfl
  f6 := ⟨Try.f31.name, by decide, Try.func31.trans (congrArg some (by kernel_rfl))⟩
  f8 := ⟨Try.f44.name, by decide, Try.func44.trans (congrArg some (by kernel_rfl))⟩
  f11 := ⟨Try.f49.name, by decide, Try.func49.trans (congrArg some (by kernel_rfl))⟩
  t0 := Try.underlying0
  a0 := Try.isAgg0
  z0 := Try.sizeOf0
  v0 := Try.zeroValue0
  t24 := Try.underlying66
  a24 := Try.isAgg66
  z24 := Try.sizeOf66
  v24 := Try.zeroValue66
  t26 := Try.underlying2
  a26 := Try.isAgg2
  z26 := Try.sizeOf2
  v26 := Try.zeroValue2
  t28 := Try.underlying69
  a28 := Try.isAgg69
  z28 := Try.sizeOf69
  v28 := Try.zeroValue69
  i26 := by kernel_rfl }
def sortA_ren : Go.Shelf.Ren := ⟨fun | 5 => 45 | 8 => 51 | 7 => 50 | 19 => 61 | 20 => 62 | 10 => 52 | 11 => 53 | 12 => 54 | 13 => 55 | 14 => 56 | 15 => 57 | 16 => 58 | 17 => 59 | 18 => 60 | 30 => 63 | 31 => 64 | 32 => 65 | 33 => 66 | 34 => 67 | 35 => 68 | 40 => 69 | n => n, fun | 23 => 66 | 25 => 2 | 3 => 3 | 32 => 85 | 22 => 66 | 0 => 0 | 44 => 95 | 46 => 97 | 4 => 4 | 36 => 88 | 35 => 87 | 41 => 33 | 5 => 5 | 9 => 9 | 53 => 98 | 57 => 102 | 63 => 104 | 64 => 105 | n => n, fun | n => n⟩
theorem sortA : Go.Proofs.SlLaysM.n5 Try.prog sortA_ren := {
  mixed := by kernel_rfl
  f5 := ⟨Try.f45.name, by decide, Try.func45.trans (congrArg some (by kernel_rfl))⟩
  f7 := ⟨Try.f50.name, by decide, Try.func50.trans (congrArg some (by kernel_rfl))⟩
  f8 := Try.func51.trans (congrArg some (by kernel_rfl))
  f10 := ⟨Try.f52.name, by decide, Try.func52.trans (congrArg some (by kernel_rfl))⟩
  f11 := ⟨Try.f53.name, by decide, Try.func53.trans (congrArg some (by kernel_rfl))⟩
  f12 := ⟨Try.f54.name, by decide, Try.func54.trans (congrArg some (by kernel_rfl))⟩
  f13 := ⟨Try.f55.name, by decide, Try.func55.trans (congrArg some (by kernel_rfl))⟩
  f14 := ⟨Try.f56.name, by decide, Try.func56.trans (congrArg some (by kernel_rfl))⟩
  f15 := ⟨Try.f57.name, by decide, Try.func57.trans (congrArg some (by kernel_rfl))⟩
  f16 := ⟨Try.f58.name, by decide, Try.func58.trans (congrArg some (by kernel_rfl))⟩
  f17 := ⟨Try.f59.name, by decide, Try.func59.trans (congrArg some (by kernel_rfl))⟩
  f18 := ⟨Try.f60.name, by decide, Try.func60.trans (congrArg some (by kernel_rfl))⟩
  f19 := Try.func61.trans (congrArg some (by kernel_rfl))
  f20 := Try.func62.trans (congrArg some (by kernel_rfl))
  f30 := ⟨Try.f63.name, by decide, Try.func63.trans (congrArg some (by kernel_rfl))⟩
  f31 := Try.func64.trans (congrArg some (by kernel_rfl))
  f32 := Try.func65.trans (congrArg some (by kernel_rfl))
  f33 := ⟨Try.f66.name, by decide, Try.func66.trans (congrArg some (by kernel_rfl))⟩
  f34 := ⟨Try.f67.name, by decide, Try.func67.trans (congrArg some (by kernel_rfl))⟩
  f35 := ⟨Try.f68.name, by decide, Try.func68.trans (congrArg some (by kernel_rfl))⟩
  f40 := ⟨Try.f69.name, by decide, Try.func69.trans (congrArg some (by kernel_rfl))⟩
  t0 := Try.underlying0
  a0 := Try.isAgg0
  z0 := Try.sizeOf0
  v0 := Try.zeroValue0
  t3 := Try.underlying3
  a3 := Try.isAgg3
  z3 := Try.sizeOf3
  v3 := Try.zeroValue3
  t4 := Try.underlying4
  a4 := Try.isAgg4
  z4 := Try.sizeOf4
  v4 := Try.zeroValue4
  t5 := Try.underlying5
  a5 := Try.isAgg5
  z5 := Try.sizeOf5
  v5 := Try.zeroValue5
  t9 := Try.underlying9
  a9 := Try.isAgg9
  z9 := Try.sizeOf9
  v9 := Try.zeroValue9
  t22 := Try.underlying66
  a22 := Try.isAgg66
  z22 := Try.sizeOf66
  v22 := Try.zeroValue66
  t23 := Try.underlying66
  a23 := Try.isAgg66
  z23 := Try.sizeOf66
  v23 := Try.zeroValue66
  t25 := Try.underlying2
  a25 := Try.isAgg2
  z25 := Try.sizeOf2
  v25 := Try.zeroValue2
  t32 := Try.underlying85
  a32 := Try.isAgg85
  z32 := Try.sizeOf85
  v32 := Try.zeroValue85
  t35 := Try.underlying87
  a35 := Try.isAgg87
  z35 := Try.sizeOf87
  v35 := Try.zeroValue87
  t36 := Try.underlying88
  a36 := Try.isAgg88
  z36 := Try.sizeOf88
  v36 := Try.zeroValue88
  t41 := Try.underlying33
  a41 := Try.isAgg33
  z41 := Try.sizeOf33
  v41 := Try.zeroValue33
  t44 := Try.underlying95
  a44 := Try.isAgg95
  z44 := Try.sizeOf95
  v44 := Try.zeroValue95
  t46 := Try.underlying97
  a46 := Try.isAgg97
  z46 := Try.sizeOf97
  v46 := Try.zeroValue97
  t53 := Try.underlying98
  a53 := Try.isAgg98
  z53 := Try.sizeOf98
  v53 := Try.zeroValue98
  t57 := Try.underlying102
  a57 := Try.isAgg102
  z57 := Try.sizeOf102
  v57 := Try.zeroValue102
  t63 := Try.underlying104
  a63 := Try.isAgg104
  z63 := Try.sizeOf104
  v63 := Try.zeroValue104
  t64 := Try.underlying105
  a64 := Try.isAgg105
  z64 := Try.sizeOf105
  v64 := Try.zeroValue105 }

theorem sortsA (m : Nat) : AnyZI.SortsIn Try.prog sortedA_ren Fence.wide m :=
  ⟨fun blk off cap ss W hH hblk hsz => callsIn_wide.2 (AnyM.slices_Sort_int sortA blk off cap ss W hH hblk hsz),
   fun p cap W => callsIn_wide.2 (AnyM.slices_Sort_int_none sortA p cap W)⟩

theorem keys_call (mb : Option Nat) (W : World) : Calls Try.prog 32 #[.map mb] W fun e w' => e = .returned (.func (.func 46) #[] #[.pointer (some ⟨W.heap.size, 0, none⟩)]) ∧ w' = W.alloc (.cells #[.map mb] 59) :=
  (callsIn_wide (n := 5)).1 (AnyZI.keys_in keysA Fence.wide 5 trivial rfl mb W)

theorem sorted_call (b nn : Nat) (D0 : DataW Unit) (R : Value → Option (DataW Unit × List MemPlace)) (w : World) (hown : w.ownsMap Try.prog 2 R b nn D0) (hmax : Maps.size D0 ≤ maxLen) (hbytes : Maps.size D0 * 8 ≤ 140737488355328) :
    Calls Try.prog 31 #[.func (.func 46) #[] #[.pointer (some ⟨w.heap.size, 0, none⟩)]] (w.alloc (.cells #[.map (some b)] 59)) fun e w' => ∃ (v : Value) (ss : List Int), e = .returned v ∧ ss.Perm (intKeys D0) ∧
      w'.ownsRow (w.alloc (.cells #[.map (some b)] 59)).heap.size 2 1 v ss.length ((ss.mergeSort (fun x y => decide (x ≤ y))).map encZ) ∧ (v = .slice none 0 0 ↔ ss = []) ∧ Below (w.alloc (.cells #[.map (some b)] 59)).heap.size (w.alloc (.cells #[.map (some b)] 59)) w' := by
  refine (callsIn_wide (n := 5)).1 ?_
  have hbl := hown.lt
  have hseq : SeqGives Fence.wide 2 Try.prog 46 #[.pointer (some ⟨w.heap.size, 0, none⟩)] encZ (fun ss => ss.Perm (intKeys D0)) (Maps.size D0) (w.alloc (.cells #[.map (some b)] 59)) :=
    AnyZI.keys_gives (ρ := keysA_ren) { keysA with } Fence.wide _ trivial rfl (by omega) w.heap.size b nn D0 _ (by simp) (by simp) (by
      obtain ⟨es, clock, hb, Ft, hs, hD⟩ := hown
      exact ⟨es, clock, (Below.heap_alloc _ _ b hbl).trans hb, Ft, hs, hD⟩)
  exact AnyZI.sorted_in sortedA Fence.wide 5 trivial trivial trivial trivial rfl (by omega) (sortsA _) (enters_of Try.func45 (by kernel_rfl) rfl) 46 #[.pointer (some ⟨w.heap.size, 0, none⟩)] trivial (enters_of Try.func46 (by kernel_rfl) rfl) _ _ hmax hbytes _ hseq

/-- The keys of a list, sorted. -/
def sortK {V : Type} (l : List (Int × V)) : List Int := (l.map (·.1)).mergeSort leI
theorem sorted_keys {V : Type} {ev : V → Value} {l : List (Int × V)} {b : Nat} {w : World} (h : MapAt w b i64 ev l) (hw : ∀ p ∈ l, (Lit.int .i64 p.1).wf = true) (hl : l.length ≤ 1000) :
    Calls Try.prog 31 #[.func (.func 46) #[] #[.pointer (some ⟨w.heap.size, 0, none⟩)]] (w.alloc (.cells #[.map (some b)] 59)) fun e w' => ∃ v : Value, e = .returned v ∧
      w'.ownsRow w.heap.size 2 1 v l.length ((sortK l).map i64) ∧ Below w.heap.size w w' := by
  obtain ⟨D0, h1, h2, h3⟩ := h.owned64 (P := Try.prog) (k := 2) Try.underlying2 hw (by unfold maxLen; omega)
  refine (sorted_call b _ D0 My.blank w h1 (by rw [h2]; unfold maxLen; omega) (by rw [h2]; omega)).mono ?_
  rintro e w' ⟨v, ss, rfl, hp, hrow, _, hb⟩
  have hlen : ss.length = l.length := by rw [hp.length_eq, h3.length_eq]; simp
  have hsort : ss.mergeSort (fun x y => decide (x ≤ y)) = sortK l := mergeSort_of_perm_i (hp.trans h3)
  refine ⟨v, rfl, ?_, ((Below.refl _ w).alloc (Nat.le_refl _) _).trans (hb.mono (by simp))⟩
  rw [hsort, hlen] at hrow
  exact ownsRow_base_a hrow (by simp)
end Go.Proofs.Ytelmgaaofighpaa
