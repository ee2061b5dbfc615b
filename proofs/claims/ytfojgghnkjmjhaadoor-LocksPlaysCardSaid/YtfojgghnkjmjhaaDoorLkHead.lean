/- Locks: the live question. -/
import Derived.Test.YtfojgghnkjmjhaaDoorLkArgs
import Derived.Test.YtfojgghnkjmjhaaDoorGenl
namespace Go.Proofs.YtfojgghnkjmjhaaDoor.Locks
open Go.RowKit Go.My

set_option maxRecDepth 100000 in
theorem itoa1 (w : World) : Calls Tryd.prog 77 #[.int .i64 1] w fun e w' => e = .returned (.string ⟨#[49]⟩) ∧ w = w' := by
  go_enter Tryd.func77, Tryd.ntmps77
  go_wp2
  go_ret
  exact ⟨rfl, rfl⟩
set_option maxRecDepth 100000 in
theorem itoa81 (w : World) : Calls Tryd.prog 77 #[.int .i64 81] w fun e w' => e = .returned (.string ⟨#[56, 49]⟩) ∧ w = w' := by
  go_enter Tryd.func77, Tryd.ntmps77
  go_wp2
  go_ret
  exact ⟨rfl, rfl⟩
set_option maxRecDepth 100000 in
theorem errno81 (w : World) : Calls Tryd.prog 76 #[.int .i64 81] w fun e w' => e = .returned (.string ⟨#[99, 111, 104, 111, 114, 116, 58, 32, 101, 114, 114, 111, 114, 32, 56, 49]⟩) ∧ w = w' := by
  have hc := Lib.hid (itoa81 w)
  go_enter Tryd.func76, Tryd.ntmps76
  go_wp2_with (go_at_call 77; refine hc.out.mono ?_; rintro e w' ⟨rfl, rfl⟩)
  go_ret
  exact ⟨rfl, rfl⟩
theorem mErr (e : Int) (w : World) : (method 264 37 (.int .i64 e) "Error").run Tryd.prog w = .ok (76, .int .i64 e) w := by kernel_rfl
theorem mWrap (v : Value) (w : World) : (method 264 65 v "Error").run Tryd.prog w = .ok (90, v) w := by kernel_rfl
/-- "lock 1: cohort: error 81" -/
def lock81 : ByteArray := ⟨#[108, 111, 99, 107, 32, 49, 58, 32, 99, 111, 104, 111, 114, 116, 58, 32, 101, 114, 114, 111, 114, 32, 56, 49]⟩
theorem lock81_eq : (lock81.toList == [108, 111, 99, 107, 32, 49, 58, 32, 99, 111, 104, 111, 114, 116, 58, 32, 101, 114, 114, 111, 114, 32, 56, 49]) = true := by rw [Lib.toList_data]; decide
set_option maxRecDepth 100000 in
theorem wrapped81 (w : World) : Calls Tryd.prog 90 #[.agg #[.string ⟨#[108, 111, 99, 107]⟩, .int .i64 1, .iface 37 (.int .i64 81)]] w fun e w' => e = .returned (.string lock81) ∧ Below w.heap.size w w' := by
  have hm := mErr
  go_enter Tryd.func90, Tryd.ntmps90
  go_wp2_with fail
  refine wp_region_quiet_lit (by kernel_rfl) (by kernel_rfl) ?_
  repeat (quiet_step ((first | (go_at_call 77; exact Calls.quiet_of_same ((itoa1 _).mono fun _ _ h => ⟨h.1, h.2.symm⟩)) | (go_at_call 76; exact Calls.quiet_of_same ((errno81 _).mono fun _ _ h => ⟨h.1, h.2.symm⟩)))))
  refine wpQuiet_nil ?_
  rintro _ ⟨nq, rfl⟩
  go_wp2
  go_ret
  exact ⟨rfl, ⟨rfl, rfl, rfl, by simp, fun k hk => Below.heap_alloc _ _ _ hk⟩⟩
set_option maxRecDepth 100000 in
theorem text81 (w : World) : Calls Tryd.prog 22 #[wrapV 1 81] w fun e w' => e = .returned (.string lock81) ∧ Below w.heap.size w w' := by
  have hm := mWrap
  unfold wrapV lockW
  go_enter Tryd.func22, Tryd.ntmps22
  go_wp2_with (go_at_call 90; refine (wrapped81 _).mono ?_; rintro e w' ⟨rfl, hb⟩)
  go_ret
  exact ⟨rfl, hb⟩

def kA : ByteArray := ⟨#[97]⟩
def kB : ByteArray := ⟨#[98]⟩
def kC : ByteArray := ⟨#[99]⟩
def L1 : LMap := [(kA, 1), (kB, 1)]
theorem e1 : lockE [] 1 [kA, kB] = none := by decide
theorem l1 : lockL [] 1 [kA, kB] = L1 := by decide
theorem e2 : lockE L1 2 [kC, kB] = some (81, 1) := by decide
theorem l2 : lockL L1 2 [kC, kB] = L1 := by decide
theorem f1 : Fine L1 := by
  have := fine_lock fine_nil 1 [kA, kB]
  rwa [l1] at this
theorem any1 : anyK L1 kB ByteArray.empty = true := by
  unfold anyK inR L1
  simp only [List.any_cons, List.any_nil]
  simp [lessK, Lib.toList_data, kA, kB, Op.bytesLess]
theorem any2 : anyK L1 kC ByteArray.empty = false := by
  unfold anyK inR L1
  simp only [List.any_cons, List.any_nil]
  simp [lessK, Lib.toList_data, kA, kB, kC, Op.bytesLess]
theorem lies2 {w : World} {g : Nat} {x y : ByteArray} (h : w.heap[g]? = some (.cells #[.string x, .string y] 9 (0, 0))) : StrsAt w (some ⟨g, 0, none⟩) [x, y] := by
  intro i z hi
  refine ⟨g, 0, rfl, lt_of_heap h, fun j v hj => ?_⟩
  have hj0 : j = 0 := by
    have := (List.getElem?_eq_some_iff.1 hj).1
    simp [strL] at this
    omega
  subst hj0
  have hv : v = .string z := by simpa [strL] using hj.symm
  subst hv
  rw [cell_of_row w g _ _ _ _ h]
  match i, hi with
  | 0, hi => simp at hi; subst hi; rfl
  | 1, hi => simp at hi; subst hi; rfl
theorem lk1 (b m : Nat) (w : World) (h : LocksAt w b m []) : Calls Tryd.prog 7 #[.pointer (some ⟨b, 0, none⟩), .int .i64 1, .slice (some ⟨w.heap.size, 0, none⟩) 2 2] (w.alloc (.cells #[.string ⟨#[97]⟩, .string ⟨#[98]⟩] 9)) fun e w' => e = .returned .nilIface ∧ LocksAt w' b m L1 ∧ Wrote [m] w w' := by
  have := lock_any b m [] 1 (some ⟨w.heap.size, 0, none⟩) 2 [kA, kB] (w.alloc (.cells #[.string ⟨#[97]⟩, .string ⟨#[98]⟩] 9)) (h.below ((Below.refl _ _).alloc (Nat.le_refl _) _)) fine_nil (lies2 (heap_alloc_new w _)) (by decide)
  refine this.mono ?_
  rintro e w' ⟨rfl, h1, h2⟩
  rw [e1, l1] at *
  exact ⟨rfl, h1, ((Wrote.refl _ w).alloc _).trans h2⟩
theorem lk2 (b m : Nat) (w : World) (h : LocksAt w b m L1) : Calls Tryd.prog 7 #[.pointer (some ⟨b, 0, none⟩), .int .i64 2, .slice (some ⟨w.heap.size, 0, none⟩) 2 2] (w.alloc (.cells #[.string ⟨#[99]⟩, .string ⟨#[98]⟩] 9)) fun e w' => e = .returned (wrapV 1 81) ∧ LocksAt w' b m L1 ∧ Wrote [m] w w' := by
  have := lock_any b m L1 2 (some ⟨w.heap.size, 0, none⟩) 2 [kC, kB] (w.alloc (.cells #[.string ⟨#[99]⟩, .string ⟨#[98]⟩] 9)) (h.below ((Below.refl _ _).alloc (Nat.le_refl _) _)) f1 (lies2 (heap_alloc_new w _)) (by decide)
  refine this.mono ?_
  rintro e w' ⟨rfl, h1, h2⟩
  rw [e2, l2] at *
  exact ⟨rfl, h1, ((Wrote.refl _ w).alloc _).trans h2⟩
theorem hd1 (b m : Nat) (w : World) (h : LocksAt w b m L1) : Calls Tryd.prog 20 #[.pointer (some ⟨b, 0, none⟩), .string ⟨#[98]⟩] w fun e w' => e = .returned (.tuple #[.int .i64 1, .bool true]) ∧ w = w' := holder_any b m L1 kB w h
theorem hd2 (b m : Nat) (w : World) (h : LocksAt w b m L1) : Calls Tryd.prog 20 #[.pointer (some ⟨b, 0, none⟩), .string ⟨#[99]⟩] w fun e w' => e = .returned (.tuple #[.int .i64 (-1), .bool false]) ∧ w = w' := holder_any b m L1 kC w h
theorem my1 (b m : Nat) (w : World) (h : LocksAt w b m L1) : Calls Tryd.prog 18 #[.pointer (some ⟨b, 0, none⟩)] w fun e w' => e = .returned (.int .i64 2) ∧ w = w' := many_any b m L1 w h
theorem an1 (b m : Nat) (w : World) (h : LocksAt w b m L1) : Calls Tryd.prog 14 #[.pointer (some ⟨b, 0, none⟩), .string ⟨#[98]⟩, .string ⟨#[]⟩] w fun e w' => e = .returned (.bool true) ∧ Below w.heap.size w w' := by
  have := any_any b m L1 kB ByteArray.empty w h
  rwa [any1] at this
theorem an2 (b m : Nat) (w : World) (h : LocksAt w b m L1) : Calls Tryd.prog 14 #[.pointer (some ⟨b, 0, none⟩), .string ⟨#[99]⟩, .string ⟨#[]⟩] w fun e w' => e = .returned (.bool false) ∧ Below w.heap.size w w' := by
  have := any_any b m L1 kC ByteArray.empty w h
  rwa [any2] at this

set_option maxRecDepth 100000 in
set_option maxHeartbeats 3200000 in
theorem head_any (w : World) : Calls Tryd.prog 4 #[] w fun e w' => e = .returned (.bool true) ∧ Below w.heap.size w w' := by
  go_enter Tryd.func4, Tryd.ntmps4
  go_wp2_with fail
  refine (new_any _).mono ?_
  rintro e w1 ⟨b, m, rfl, hs1, hb1, hI⟩
  have H1 := Lib.hid hs1
  have B1 := Lib.hid hb1
  have HI := Lib.hid hI
  clear hs1 hb1 hI
  go_wp2_with fail
  refine (lk1 b m _ H1.out).mono ?_
  rintro e w2 ⟨rfl, hs, ht⟩
  have H2 := Lib.hid hs
  have T2 := Lib.hid ht
  clear hs ht
  go_wp2_with fail
  refine (lk2 b m _ H2.out).mono ?_
  rintro e w3 ⟨rfl, hs, ht⟩
  have H3 := Lib.hid hs
  have T3 := Lib.hid ht
  clear hs ht
  go_wp2_with fail
  refine (hd1 b m _ H3.out).mono ?_
  rintro e w' ⟨rfl, rfl⟩
  go_wp2_with fail
  refine (hd2 b m _ H3.out).mono ?_
  rintro e w' ⟨rfl, rfl⟩
  go_wp2_with fail
  refine (text81 _).mono ?_
  rintro e w4 ⟨rfl, hb⟩
  have H4 := Lib.hid (H3.out.below hb)
  have T4 := Lib.hid hb
  have hstr := lock81_eq
  clear hb
  go_wp2_with fail
  refine (my1 b m _ H4.out).mono ?_
  rintro e w' ⟨rfl, rfl⟩
  go_wp2_with fail
  refine (an1 b m _ H4.out).mono ?_
  rintro e w5 ⟨rfl, hb⟩
  have H5 := Lib.hid (H4.out.below hb)
  have T5 := Lib.hid hb
  clear hb
  go_wp2_with fail
  refine (an2 b m _ H5.out).mono ?_
  rintro e w6 ⟨rfl, hb⟩
  have T6 := Lib.hid hb
  clear hb
  go_wp2_with fail
  go_ret
  refine ⟨rfl, B1.out.trans ?_⟩
  have s1 := B1.out.size
  have hm := HI.out
  exact ((((T2.out.trans T3.out).trans (Wrote.of_below T4.out)).trans (Wrote.of_below T5.out)).trans (Wrote.of_below T6.out)).below s1 fun k hk => by simp at hk; omega
end Go.Proofs.YtfojgghnkjmjhaaDoor.Locks
