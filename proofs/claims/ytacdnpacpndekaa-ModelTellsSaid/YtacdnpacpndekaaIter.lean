/- The keys of the model's map, sorted: the shelf's contracts at this dump, in plain words (written by the kit's tool lay-plain), and what they say of a map that reads as a list. -/
import Derived.Shelf.SlIter.Nil
import Derived.Shelf.SortM.Plain
import Derived.Shelf.SortM.SortNone
import Derived.Test.YtacdnpacpndekaaAt
import Derived.Test.YtacdnpacpndekaaKeys
namespace Go.Proofs.Ytacdnpacpndekaa
open Go.RowKit Go.Maps Go.Sort Go.Shelf Go.My Go.My.Model
def keysA_ren : Go.Shelf.Ren := ⟨fun | 7 => 23 | 10 => 31 | n => n, fun | 23 => 46 | 26 => 9 | 3 => 26 | 28 => 53 | 0 => 0 | 27 => 52 | 33 => 60 | 4 => 4 | n => n, fun | n => n⟩
theorem keysA : Go.Proofs.SlLaysZ.n7 Try.prog keysA_ren := {
  mixed := by kernel_rfl
  f7 := ⟨Try.f23.name, by decide, Try.func23.trans (congrArg some (by kernel_rfl))⟩
  f10 := ⟨Try.f31.name, by decide, Try.func31.trans (congrArg some (by kernel_rfl))⟩
  t0 := Try.underlying0
  a0 := Try.isAgg0
  z0 := Try.sizeOf0
  v0 := Try.zeroValue0
  t4 := Try.underlying4
  a4 := Try.isAgg4
  z4 := Try.sizeOf4
  v4 := Try.zeroValue4
  t23 := Try.underlying46
  a23 := Try.isAgg46
  z23 := Try.sizeOf46
  v23 := Try.zeroValue46
  t26 := Try.underlying9
  a26 := Try.isAgg9
  z26 := Try.sizeOf9
  v26 := Try.zeroValue9
  t27 := Try.underlying52
  a27 := Try.isAgg52
  z27 := Try.sizeOf52
  v27 := Try.zeroValue52
  t28 := Try.underlying53
  a28 := Try.isAgg53
  z28 := Try.sizeOf53
  v28 := Try.zeroValue53
  t33 := Try.underlying60
  a33 := Try.isAgg60
  z33 := Try.sizeOf60
  v33 := Try.zeroValue60 }
def sortedA_ren : Go.Shelf.Ren := ⟨fun | 6 => 22 | 8 => 29 | 9 => 30 | 11 => 33 | 13 => 35 | 12 => 34 | 23 => 45 | 24 => 46 | 14 => 36 | 15 => 37 | 16 => 38 | 17 => 39 | 18 => 40 | 19 => 41 | 20 => 42 | 21 => 43 | 22 => 44 | 25 => 47 | 26 => 48 | 27 => 49 | 28 => 50 | 29 => 51 | 30 => 52 | 31 => 53 | n => n, fun | 26 => 9 | 28 => 53 | 24 => 50 | 0 => 0 | 3 => 3 | 37 => 65 | 48 => 76 | 50 => 78 | 4 => 4 | 40 => 68 | 39 => 67 | 45 => 73 | 5 => 5 | 9 => 9 | 51 => 79 | 55 => 83 | 57 => 85 | 58 => 86 | 33 => 60 | n => n, fun | n => n⟩
theorem sortedA : Go.Proofs.SlLaysZ.n6 Try.prog sortedA_ren := {
  mixed := by kernel_rfl
  f6 := ⟨Try.f22.name, by decide, Try.func22.trans (congrArg some (by kernel_rfl))⟩
  f8 := ⟨Try.f29.name, by decide, Try.func29.trans (congrArg some (by kernel_rfl))⟩
  f11 := ⟨Try.f33.name, by decide, Try.func33.trans (congrArg some (by kernel_rfl))⟩
  t0 := Try.underlying0
  a0 := Try.isAgg0
  z0 := Try.sizeOf0
  v0 := Try.zeroValue0
  t24 := Try.underlying50
  a24 := Try.isAgg50
  z24 := Try.sizeOf50
  v24 := Try.zeroValue50
  t26 := Try.underlying9
  a26 := Try.isAgg9
  z26 := Try.sizeOf9
  v26 := Try.zeroValue9
  t28 := Try.underlying53
  a28 := Try.isAgg53
  z28 := Try.sizeOf53
  v28 := Try.zeroValue53
  i26 := by kernel_rfl }
def sortA_ren : Go.Shelf.Ren := ⟨fun | 6 => 30 | 8 => 35 | 9 => 34 | 19 => 45 | 20 => 46 | 21 => 36 | 22 => 37 | 23 => 38 | 24 => 39 | 25 => 40 | 26 => 41 | 27 => 42 | 28 => 43 | 29 => 44 | 36 => 47 | 31 => 48 | 32 => 49 | 37 => 50 | 38 => 51 | 39 => 52 | 41 => 53 | n => n, fun | 27 => 50 | 29 => 9 | 3 => 3 | 32 => 65 | 26 => 50 | 0 => 0 | 44 => 76 | 46 => 78 | 4 => 4 | 36 => 68 | 35 => 67 | 41 => 73 | 5 => 5 | 9 => 9 | 53 => 79 | 57 => 83 | 63 => 85 | 64 => 86 | n => n, fun | n => n⟩
theorem sortA : Go.Proofs.SlLaysM.n6 Try.prog sortA_ren := {
  mixed := by kernel_rfl
  f6 := ⟨Try.f30.name, by decide, Try.func30.trans (congrArg some (by kernel_rfl))⟩
  f8 := Try.func35.trans (congrArg some (by kernel_rfl))
  f9 := ⟨Try.f34.name, by decide, Try.func34.trans (congrArg some (by kernel_rfl))⟩
  f19 := Try.func45.trans (congrArg some (by kernel_rfl))
  f20 := Try.func46.trans (congrArg some (by kernel_rfl))
  f21 := ⟨Try.f36.name, by decide, Try.func36.trans (congrArg some (by kernel_rfl))⟩
  f22 := ⟨Try.f37.name, by decide, Try.func37.trans (congrArg some (by kernel_rfl))⟩
  f23 := ⟨Try.f38.name, by decide, Try.func38.trans (congrArg some (by kernel_rfl))⟩
  f24 := ⟨Try.f39.name, by decide, Try.func39.trans (congrArg some (by kernel_rfl))⟩
  f25 := ⟨Try.f40.name, by decide, Try.func40.trans (congrArg some (by kernel_rfl))⟩
  f26 := ⟨Try.f41.name, by decide, Try.func41.trans (congrArg some (by kernel_rfl))⟩
  f27 := ⟨Try.f42.name, by decide, Try.func42.trans (congrArg some (by kernel_rfl))⟩
  f28 := ⟨Try.f43.name, by decide, Try.func43.trans (congrArg some (by kernel_rfl))⟩
  f29 := ⟨Try.f44.name, by decide, Try.func44.trans (congrArg some (by kernel_rfl))⟩
  f31 := Try.func48.trans (congrArg some (by kernel_rfl))
  f32 := Try.func49.trans (congrArg some (by kernel_rfl))
  f36 := ⟨Try.f47.name, by decide, Try.func47.trans (congrArg some (by kernel_rfl))⟩
  f37 := ⟨Try.f50.name, by decide, Try.func50.trans (congrArg some (by kernel_rfl))⟩
  f38 := ⟨Try.f51.name, by decide, Try.func51.trans (congrArg some (by kernel_rfl))⟩
  f39 := ⟨Try.f52.name, by decide, Try.func52.trans (congrArg some (by kernel_rfl))⟩
  f41 := ⟨Try.f53.name, by decide, Try.func53.trans (congrArg some (by kernel_rfl))⟩
  t0 := Try.underlying0
  a0 := Try.isAgg0
  z0 := Try.sizeOf0
  v0 := Try.zeroValue0
  t3 := Try.underlying3
  a3 := Try.isAgg3
  z3 := Try.sizeOf3
  v3 := Try.zeroValue3
  t4 := Try.underlying4
  a4 := Try.isAgg4
  z4 := Try.sizeOf4
  v4 := Try.zeroValue4
  t5 := Try.underlying5
  a5 := Try.isAgg5
  z5 := Try.sizeOf5
  v5 := Try.zeroValue5
  t9 := Try.underlying9
  a9 := Try.isAgg9
  z9 := Try.sizeOf9
  v9 := Try.zeroValue9
  t26 := Try.underlying50
  a26 := Try.isAgg50
  z26 := Try.sizeOf50
  v26 := Try.zeroValue50
  t27 := Try.underlying50
  a27 := Try.isAgg50
  z27 := Try.sizeOf50
  v27 := Try.zeroValue50
  t29 := Try.underlying9
  a29 := Try.isAgg9
  z29 := Try.sizeOf9
  v29 := Try.zeroValue9
  t32 := Try.underlying65
  a32 := Try.isAgg65
  z32 := Try.sizeOf65
  v32 := Try.zeroValue65
  t35 := Try.underlying67
  a35 := Try.isAgg67
  z35 := Try.sizeOf67
  v35 := Try.zeroValue67
  t36 := Try.underlying68
  a36 := Try.isAgg68
  z36 := Try.sizeOf68
  v36 := Try.zeroValue68
  t41 := Try.underlying73
  a41 := Try.isAgg73
  z41 := Try.sizeOf73
  v41 := Try.zeroValue73
  t44 := Try.underlying76
  a44 := Try.isAgg76
  z44 := Try.sizeOf76
  v44 := Try.zeroValue76
  t46 := Try.underlying78
  a46 := Try.isAgg78
  z46 := Try.sizeOf78
  v46 := Try.zeroValue78
  t53 := Try.underlying79
  a53 := Try.isAgg79
  z53 := Try.sizeOf79
  v53 := Try.zeroValue79
  t57 := Try.underlying83
  a57 := Try.isAgg83
  z57 := Try.sizeOf83
  v57 := Try.zeroValue83
  t63 := Try.underlying85
  a63 := Try.isAgg85
  z63 := Try.sizeOf85
  v63 := Try.zeroValue85
  t64 := Try.underlying86
  a64 := Try.isAgg86
  z64 := Try.sizeOf86
  v64 := Try.zeroValue86 }

theorem sortsA (m : Nat) : AnyZ.SortsIn Try.prog sortedA_ren Fence.wide m :=
  ⟨fun blk off cap ss W hH hblk hsz => callsIn_wide.2 (AnyM.slices_Sort_string sortA blk off cap ss W hH hblk hsz),
   fun p cap W => callsIn_wide.2 (AnyM.slices_Sort_string_none sortA p cap W)⟩

theorem keys_call (mb : Option Nat) (W : World) : Calls Try.prog 23 #[.map mb] W fun e w' => e = .returned (.func (.func 31) #[] #[.pointer (some ⟨W.heap.size, 0, none⟩)]) ∧ w' = W.alloc (.cells #[.map mb] 46) :=
  (callsIn_wide (n := 5)).1 (AnyZ.keys_in keysA Fence.wide 5 trivial rfl mb W)

theorem sorted_call (b nn : Nat) (D0 : DataW Unit) (R : Value → Option (DataW Unit × List MemPlace)) (w : World) (hown : w.ownsMap Try.prog 9 R b nn D0) (hmax : Maps.size D0 ≤ maxLen) (hbytes : Maps.size D0 * 16 ≤ 140737488355328) :
    Calls Try.prog 22 #[.func (.func 31) #[] #[.pointer (some ⟨w.heap.size, 0, none⟩)]] (w.alloc (.cells #[.map (some b)] 46)) fun e w' => ∃ (v : Value) (ss : List (List UInt8)), e = .returned v ∧ ss.Perm (strKeys D0) ∧
      w'.ownsRow (w.alloc (.cells #[.map (some b)] 46)).heap.size 9 1 v ss.length ((ss.mergeSort (fun x y => decide (x ≤ y))).map encStr) ∧ (v = .slice none 0 0 ↔ ss = []) ∧ Below (w.alloc (.cells #[.map (some b)] 46)).heap.size (w.alloc (.cells #[.map (some b)] 46)) w' := by
  refine (callsIn_wide (n := 5)).1 ?_
  have hbl := hown.lt
  have hseq : SeqGives Fence.wide 2 Try.prog 31 #[.pointer (some ⟨w.heap.size, 0, none⟩)] encStr (fun ss => ss.Perm (strKeys D0)) (Maps.size D0) (w.alloc (.cells #[.map (some b)] 46)) :=
    AnyZ.keys_gives (ρ := keysA_ren) { keysA with } Fence.wide _ trivial rfl (by omega) w.heap.size b nn D0 _ (by simp) (by simp) (by
      obtain ⟨es, clock, hb, Ft, hs, hD⟩ := hown
      exact ⟨es, clock, (Below.heap_alloc _ _ b hbl).trans hb, Ft, hs, hD⟩)
  exact AnyZ.sorted_in sortedA Fence.wide 5 trivial trivial trivial trivial rfl (by omega) (sortsA _) (enters_of Try.func30 (by kernel_rfl) rfl) 31 #[.pointer (some ⟨w.heap.size, 0, none⟩)] trivial (enters_of Try.func31 (by kernel_rfl) rfl) _ _ hmax hbytes _ hseq

/-- The keys of a list, sorted. -/
def sortS {V : Type} (l : List (ByteArray × V)) : List ByteArray := ((l.map (·.1.data.toList)).mergeSort leB).map fun x => ⟨x.toArray⟩
theorem sorted_keys {V : Type} {ev : V → Value} {l : List (ByteArray × V)} {b : Nat} {w : World} (h : MapAt w b bs ev l) (hw : ∀ p ∈ l, p.1.size ≤ maxLen) (hl : l.length ≤ 1000000) :
    Calls Try.prog 22 #[.func (.func 31) #[] #[.pointer (some ⟨w.heap.size, 0, none⟩)]] (w.alloc (.cells #[.map (some b)] 46)) fun e w' => ∃ v : Value, e = .returned v ∧
      w'.ownsRow w.heap.size 9 1 v l.length ((sortS l).map bs) ∧ Below w.heap.size w w' := by
  obtain ⟨D0, h1, h2, h3⟩ := h.ownedStr (P := Try.prog) (k := 9) Try.underlying9 hw (by unfold maxLen; omega)
  refine (sorted_call b _ D0 My.blank w h1 (by rw [h2]; unfold maxLen; omega) (by rw [h2]; omega)).mono ?_
  rintro e w' ⟨v, ss, rfl, hp, hrow, _, hb⟩
  have hlen : ss.length = l.length := by rw [hp.length_eq, h3.length_eq]; simp
  have hsort : (ss.mergeSort (fun x y => decide (x ≤ y))).map encStr = (sortS l).map bs := by
    unfold sortS
    rw [List.map_map]
    have : ss.mergeSort (fun x y => decide (x ≤ y)) = (l.map (·.1.data.toList)).mergeSort leB := mergeSort_of_perm (hp.trans h3)
    rw [this]
    rfl
  refine ⟨v, rfl, ?_, ((Below.refl _ w).alloc (Nat.le_refl _) _).trans (hb.mono (by simp))⟩
  rw [hsort, hlen] at hrow
  exact ownsRow_base_a hrow (by simp)
end Go.Proofs.Ytacdnpacpndekaa
