/- The open numbers: a call by its number; the live question. -/
import Derived.Test.YtelmgaaofighpaaVote
import Derived.Test.YtelmgaaofighpaaWho
import Derived.Test.YtelmgaaofighpaaPrv
import Derived.Test.YtelmgaaofighpaaCut
namespace Go.Proofs.Ytelmgaaofighpaa
open Go.RowKit Go.My Go.My.Slots

theorem left_of_below {w w0 w' : World} {I : Ids} {x : Bool} {s' : St} {e : Ending} (hb : Below w.heap.size w w0) (h : Left w0 I x s' e w') : Left w I x s' e w' :=
  ⟨h.1, h.2.1, ⟨h.2.2.os.trans hb.os, h.2.2.tape.trans hb.tape, h.2.2.output.trans hb.output, Nat.le_trans hb.size h.2.2.size, fun k hk hn => (h.2.2.block k (Nat.lt_of_lt_of_le hk hb.size) hn).trans (hb.block k hk)⟩⟩

def msk (what : Int) : Int := bits .and .i64 what 7
def opv (what n kind who d v : Int) : Value := .agg #[.int .i64 what, .int .i64 n, .int .i64 kind, .int .i64 who, .int .i64 d, .int .i64 v]

def OpBox (what n kind who d v : Int) : Obj := .cells #[.int .i64 what, .int .i64 n, .int .i64 kind, .int .i64 who, .int .i64 d, .int .i64 v] 28
set_option maxRecDepth 100000 in
set_option maxHeartbeats 3200000 in
theorem does_0 (I : Ids) (s : St) (what n kind who d v : Int) (w : World) (h : SlotsAt w I s) (hi : Inv s) (hn : n ≤ 9223372036854775807) (hc : msk what = 0) :
    Calls Try.prog 11 #[.pointer (some ⟨I.b, 0, none⟩), .agg #[.int .i64 what, .int .i64 n, .int .i64 kind, .int .i64 who, .int .i64 d, .int .i64 v]] w (Left w I (doesB s (msk what) n kind who d v) (doesS s (msk what) n kind who d v)) := by
  have E1 : doesB s (msk what) n kind who d v = onceB s s.acc n d := by simp [doesB, hc]
  have E2 : doesS s (msk what) n kind who d v = accept s n d := by simp [doesS, hc]
  rw [E1, E2]
  have HB : Hid (Below w.heap.size w (w.alloc (.cells #[.int .i64 what, .int .i64 n, .int .i64 kind, .int .i64 who, .int .i64 d, .int .i64 v] 28))) := (Below.refl _ _).alloc (Nat.le_refl _) _
  have HS := Lib.hid (h.below HB.out)
  have HL := Lib.hid hn
  have HI := Lib.hid hi
  have t0 : (bits .and .i64 what 7 == 0) = true := by rw [show bits .and .i64 what 7 = 0 from hc]; rfl
  clear h hi hn E1 E2 hc
  go_enter Try.func11, Try.ntmps11
  go_wp2_with (go_at_call 26; refine (accept_any I s n d _ HS.out HI.out HL.out).mono ?_; rintro e w' ⟨rfl, hs', ht'⟩; have HS' := Lib.hid hs'; have HT' := Lib.hid ht'; clear hs' ht')
  go_ret
  exact left_of_below HB.out ⟨rfl, HS'.out, HT'.out⟩

set_option maxRecDepth 100000 in
set_option maxHeartbeats 3200000 in
theorem does_1 (I : Ids) (s : St) (what n kind who d v : Int) (w : World) (h : SlotsAt w I s) (hi : Inv s) (hn : n ≤ 9223372036854775807) (hc : msk what = 1) :
    Calls Try.prog 11 #[.pointer (some ⟨I.b, 0, none⟩), .agg #[.int .i64 what, .int .i64 n, .int .i64 kind, .int .i64 who, .int .i64 d, .int .i64 v]] w (Left w I (doesB s (msk what) n kind who d v) (doesS s (msk what) n kind who d v)) := by
  have E1 : doesB s (msk what) n kind who d v = onceB s s.dec n d := by simp [doesB, hc]
  have E2 : doesS s (msk what) n kind who d v = decideS s n d := by simp [doesS, hc]
  rw [E1, E2]
  have HB : Hid (Below w.heap.size w (w.alloc (.cells #[.int .i64 what, .int .i64 n, .int .i64 kind, .int .i64 who, .int .i64 d, .int .i64 v] 28))) := (Below.refl _ _).alloc (Nat.le_refl _) _
  have HS := Lib.hid (h.below HB.out)
  have HL := Lib.hid hn
  have HI := Lib.hid hi
  have t0 : (bits .and .i64 what 7 == 0) = false := by rw [show bits .and .i64 what 7 = 1 from hc]; rfl
  have t1 : (bits .and .i64 what 7 == 1) = true := by rw [show bits .and .i64 what 7 = 1 from hc]; rfl
  clear h hi hn E1 E2 hc
  go_enter Try.func11, Try.ntmps11
  go_wp2_with (go_at_call 28; refine (decide_any I s n d _ HS.out HI.out HL.out).mono ?_; rintro e w' ⟨rfl, hs', ht'⟩; have HS' := Lib.hid hs'; have HT' := Lib.hid ht'; clear hs' ht')
  go_ret
  exact left_of_below HB.out ⟨rfl, HS'.out, HT'.out⟩

set_option maxRecDepth 100000 in
set_option maxHeartbeats 3200000 in
theorem does_2 (I : Ids) (s : St) (what n kind who d v : Int) (w : World) (h : SlotsAt w I s) (hi : Inv s) (hn : n ≤ 9223372036854775807) (hc : msk what = 2) :
    Calls Try.prog 11 #[.pointer (some ⟨I.b, 0, none⟩), .agg #[.int .i64 what, .int .i64 n, .int .i64 kind, .int .i64 who, .int .i64 d, .int .i64 v]] w (Left w I (doesB s (msk what) n kind who d v) (doesS s (msk what) n kind who d v)) := by
  have E1 : doesB s (msk what) n kind who d v = voteB s kind n who d := by simp [doesB, hc]
  have E2 : doesS s (msk what) n kind who d v = vote s kind n who d := by simp [doesS, hc]
  rw [E1, E2]
  have HB : Hid (Below w.heap.size w (w.alloc (.cells #[.int .i64 what, .int .i64 n, .int .i64 kind, .int .i64 who, .int .i64 d, .int .i64 v] 28))) := (Below.refl _ _).alloc (Nat.le_refl _) _
  have HS := Lib.hid (h.below HB.out)
  have HL := Lib.hid hn
  have HI := Lib.hid hi
  have t0 : (bits .and .i64 what 7 == 0) = false := by rw [show bits .and .i64 what 7 = 2 from hc]; rfl
  have t1 : (bits .and .i64 what 7 == 1) = false := by rw [show bits .and .i64 what 7 = 2 from hc]; rfl
  have t2 : (bits .and .i64 what 7 == 2) = true := by rw [show bits .and .i64 what 7 = 2 from hc]; rfl
  clear h hi hn E1 E2 hc
  go_enter Try.func11, Try.ntmps11
  go_wp2_with (go_at_call 27; refine (vote_any I s kind n who d _ HS.out HI.out HL.out).mono ?_; rintro e w' ⟨rfl, hs', ht'⟩; have HS' := Lib.hid hs'; have HT' := Lib.hid ht'; clear hs' ht')
  go_ret
  exact left_of_below HB.out ⟨rfl, HS'.out, HT'.out⟩

set_option maxRecDepth 100000 in
set_option maxHeartbeats 3200000 in
theorem does_3 (I : Ids) (s : St) (what n kind who d v : Int) (w : World) (h : SlotsAt w I s) (hi : Inv s) (hn : n ≤ 9223372036854775807) (hc : msk what = 3) :
    Calls Try.prog 11 #[.pointer (some ⟨I.b, 0, none⟩), .agg #[.int .i64 what, .int .i64 n, .int .i64 kind, .int .i64 who, .int .i64 d, .int .i64 v]] w (Left w I (doesB s (msk what) n kind who d v) (doesS s (msk what) n kind who d v)) := by
  have E1 : doesB s (msk what) n kind who d v = voteB s kind n who d := by simp [doesB, hc]
  have E2 : doesS s (msk what) n kind who d v = vote s kind n who d := by simp [doesS, hc]
  rw [E1, E2]
  have HB : Hid (Below w.heap.size w (w.alloc (.cells #[.int .i64 what, .int .i64 n, .int .i64 kind, .int .i64 who, .int .i64 d, .int .i64 v] 28))) := (Below.refl _ _).alloc (Nat.le_refl _) _
  have HS := Lib.hid (h.below HB.out)
  have HL := Lib.hid hn
  have HI := Lib.hid hi
  have t0 : (bits .and .i64 what 7 == 0) = false := by rw [show bits .and .i64 what 7 = 3 from hc]; rfl
  have t1 : (bits .and .i64 what 7 == 1) = false := by rw [show bits .and .i64 what 7 = 3 from hc]; rfl
  have t2 : (bits .and .i64 what 7 == 2) = false := by rw [show bits .and .i64 what 7 = 3 from hc]; rfl
  have t3 : (bits .and .i64 what 7 == 3) = true := by rw [show bits .and .i64 what 7 = 3 from hc]; rfl
  clear h hi hn E1 E2 hc
  go_enter Try.func11, Try.ntmps11
  go_wp2_with (go_at_call 27; refine (vote_any I s kind n who d _ HS.out HI.out HL.out).mono ?_; rintro e w' ⟨rfl, hs', ht'⟩; have HS' := Lib.hid hs'; have HT' := Lib.hid ht'; clear hs' ht')
  go_ret
  exact left_of_below HB.out ⟨rfl, HS'.out, HT'.out⟩

set_option maxRecDepth 100000 in
set_option maxHeartbeats 3200000 in
theorem does_4 (I : Ids) (s : St) (what n kind who d v : Int) (w : World) (h : SlotsAt w I s) (hi : Inv s) (hn : n ≤ 9223372036854775807) (hc : msk what = 4) :
    Calls Try.prog 11 #[.pointer (some ⟨I.b, 0, none⟩), .agg #[.int .i64 what, .int .i64 n, .int .i64 kind, .int .i64 who, .int .i64 d, .int .i64 v]] w (Left w I (doesB s (msk what) n kind who d v) (doesS s (msk what) n kind who d v)) := by
  have E1 : doesB s (msk what) n kind who d v = proveB s n v := by simp [doesB, hc]
  have E2 : doesS s (msk what) n kind who d v = prove s n v d := by simp [doesS, hc]
  rw [E1, E2]
  have HB : Hid (Below w.heap.size w (w.alloc (.cells #[.int .i64 what, .int .i64 n, .int .i64 kind, .int .i64 who, .int .i64 d, .int .i64 v] 28))) := (Below.refl _ _).alloc (Nat.le_refl _) _
  have HS := Lib.hid (h.below HB.out)
  have HL := Lib.hid hn
  have HI := Lib.hid hi
  have t0 : (bits .and .i64 what 7 == 0) = false := by rw [show bits .and .i64 what 7 = 4 from hc]; rfl
  have t1 : (bits .and .i64 what 7 == 1) = false := by rw [show bits .and .i64 what 7 = 4 from hc]; rfl
  have t2 : (bits .and .i64 what 7 == 2) = false := by rw [show bits .and .i64 what 7 = 4 from hc]; rfl
  have t3 : (bits .and .i64 what 7 == 3) = false := by rw [show bits .and .i64 what 7 = 4 from hc]; rfl
  have t4 : (bits .and .i64 what 7 == 4) = true := by rw [show bits .and .i64 what 7 = 4 from hc]; rfl
  clear h hi hn E1 E2 hc
  go_enter Try.func11, Try.ntmps11
  go_wp2_with (go_at_call 29; refine (prove_any I s n v d _ HS.out HI.out HL.out).mono ?_; rintro e w' ⟨rfl, hs', ht'⟩; have HS' := Lib.hid hs'; have HT' := Lib.hid ht'; clear hs' ht')
  go_ret
  exact left_of_below HB.out ⟨rfl, HS'.out, HT'.out⟩

set_option maxRecDepth 100000 in
set_option maxHeartbeats 3200000 in
theorem does_5 (I : Ids) (s : St) (what n kind who d v : Int) (w : World) (h : SlotsAt w I s) (hi : Inv s) (hn : n ≤ 9223372036854775807) (hc : msk what = 5) :
    Calls Try.prog 11 #[.pointer (some ⟨I.b, 0, none⟩), .agg #[.int .i64 what, .int .i64 n, .int .i64 kind, .int .i64 who, .int .i64 d, .int .i64 v]] w (Left w I (doesB s (msk what) n kind who d v) (doesS s (msk what) n kind who d v)) := by
  have E1 : doesB s (msk what) n kind who d v = enterB s n := by simp [doesB, hc]
  have E2 : doesS s (msk what) n kind who d v = enter s n := by simp [doesS, hc]
  rw [E1, E2]
  have HB : Hid (Below w.heap.size w (w.alloc (.cells #[.int .i64 what, .int .i64 n, .int .i64 kind, .int .i64 who, .int .i64 d, .int .i64 v] 28))) := (Below.refl _ _).alloc (Nat.le_refl _) _
  have HS := Lib.hid (h.below HB.out)
  have HL := Lib.hid hn
  have HI := Lib.hid hi
  have t0 : (bits .and .i64 what 7 == 0) = false := by rw [show bits .and .i64 what 7 = 5 from hc]; rfl
  have t1 : (bits .and .i64 what 7 == 1) = false := by rw [show bits .and .i64 what 7 = 5 from hc]; rfl
  have t2 : (bits .and .i64 what 7 == 2) = false := by rw [show bits .and .i64 what 7 = 5 from hc]; rfl
  have t3 : (bits .and .i64 what 7 == 3) = false := by rw [show bits .and .i64 what 7 = 5 from hc]; rfl
  have t4 : (bits .and .i64 what 7 == 4) = false := by rw [show bits .and .i64 what 7 = 5 from hc]; rfl
  have t5 : (bits .and .i64 what 7 == 5) = true := by rw [show bits .and .i64 what 7 = 5 from hc]; rfl
  clear h hi hn E1 E2 hc
  go_enter Try.func11, Try.ntmps11
  go_wp2_with (go_at_call 25; refine (enter_any I s n _ HS.out).mono ?_; rintro e w' ⟨rfl, hs', ht'⟩; have HS' := Lib.hid hs'; have HT' := Lib.hid ht'; clear hs' ht')
  go_ret
  exact left_of_below HB.out ⟨rfl, HS'.out, HT'.out⟩

set_option maxRecDepth 100000 in
set_option maxHeartbeats 3200000 in
theorem does_6 (I : Ids) (s : St) (what n kind who d v : Int) (w : World) (h : SlotsAt w I s) (hi : Inv s) (hn : n ≤ 9223372036854775807) (hc : msk what = 6) :
    Calls Try.prog 11 #[.pointer (some ⟨I.b, 0, none⟩), .agg #[.int .i64 what, .int .i64 n, .int .i64 kind, .int .i64 who, .int .i64 d, .int .i64 v]] w (Left w I (doesB s (msk what) n kind who d v) (doesS s (msk what) n kind who d v)) := by
  have E1 : doesB s (msk what) n kind who d v = cutB s n := by simp [doesB, hc]
  have E2 : doesS s (msk what) n kind who d v = cut s n := by simp [doesS, hc]
  rw [E1, E2]
  have HB : Hid (Below w.heap.size w (w.alloc (.cells #[.int .i64 what, .int .i64 n, .int .i64 kind, .int .i64 who, .int .i64 d, .int .i64 v] 28))) := (Below.refl _ _).alloc (Nat.le_refl _) _
  have HS := Lib.hid (h.below HB.out)
  have HL := Lib.hid hn
  have HI := Lib.hid hi
  have t0 : (bits .and .i64 what 7 == 0) = false := by rw [show bits .and .i64 what 7 = 6 from hc]; rfl
  have t1 : (bits .and .i64 what 7 == 1) = false := by rw [show bits .and .i64 what 7 = 6 from hc]; rfl
  have t2 : (bits .and .i64 what 7 == 2) = false := by rw [show bits .and .i64 what 7 = 6 from hc]; rfl
  have t3 : (bits .and .i64 what 7 == 3) = false := by rw [show bits .and .i64 what 7 = 6 from hc]; rfl
  have t4 : (bits .and .i64 what 7 == 4) = false := by rw [show bits .and .i64 what 7 = 6 from hc]; rfl
  have t5 : (bits .and .i64 what 7 == 5) = false := by rw [show bits .and .i64 what 7 = 6 from hc]; rfl
  have t6 : (bits .and .i64 what 7 == 6) = true := by rw [show bits .and .i64 what 7 = 6 from hc]; rfl
  clear h hi hn E1 E2 hc
  go_enter Try.func11, Try.ntmps11
  go_wp2_with (go_at_call 19; refine (cut_any I s n _ HS.out HI.out).mono ?_; rintro e w' ⟨rfl, hs', ht'⟩; have HS' := Lib.hid hs'; have HT' := Lib.hid ht'; clear hs' ht')
  go_ret
  exact left_of_below HB.out ⟨rfl, HS'.out, HT'.out⟩

set_option maxRecDepth 100000 in
set_option maxHeartbeats 3200000 in
theorem does_7 (I : Ids) (s : St) (what n kind who d v : Int) (w : World) (h : SlotsAt w I s) (hi : Inv s) (hn : n ≤ 9223372036854775807) (h0 : msk what ≠ 0) (h1 : msk what ≠ 1) (h2 : msk what ≠ 2) (h3 : msk what ≠ 3) (h4 : msk what ≠ 4) (h5 : msk what ≠ 5) (h6 : msk what ≠ 6) :
    Calls Try.prog 11 #[.pointer (some ⟨I.b, 0, none⟩), .agg #[.int .i64 what, .int .i64 n, .int .i64 kind, .int .i64 who, .int .i64 d, .int .i64 v]] w (Left w I (doesB s (msk what) n kind who d v) (doesS s (msk what) n kind who d v)) := by
  have E1 : doesB s (msk what) n kind who d v = openB s n := by simp [doesB, h0, h1, h2, h3, h4, h5, h6]
  have E2 : doesS s (msk what) n kind who d v = s := by simp [doesS, h0, h1, h2, h3, h4, h5, h6]
  rw [E1, E2]
  have HB : Hid (Below w.heap.size w (w.alloc (.cells #[.int .i64 what, .int .i64 n, .int .i64 kind, .int .i64 who, .int .i64 d, .int .i64 v] 28))) := (Below.refl _ _).alloc (Nat.le_refl _) _
  have HS := Lib.hid (h.below HB.out)
  have HL := Lib.hid hn
  have HI := Lib.hid hi
  have t0 : (bits .and .i64 what 7 == 0) = false := by simpa [msk] using h0
  have t1 : (bits .and .i64 what 7 == 1) = false := by simpa [msk] using h1
  have t2 : (bits .and .i64 what 7 == 2) = false := by simpa [msk] using h2
  have t3 : (bits .and .i64 what 7 == 3) = false := by simpa [msk] using h3
  have t4 : (bits .and .i64 what 7 == 4) = false := by simpa [msk] using h4
  have t5 : (bits .and .i64 what 7 == 5) = false := by simpa [msk] using h5
  have t6 : (bits .and .i64 what 7 == 6) = false := by simpa [msk] using h6
  clear h hi hn E1 E2 h0 h1 h2 h3 h4 h5 h6
  go_enter Try.func11, Try.ntmps11
  go_wp2_with (go_at_call 16; refine (open_any I.b s.low n _ HS.out.c0 HI.out.low0 HL.out).mono ?_; rintro e w' ⟨rfl, rfl⟩)
  go_ret
  exact left_of_below HB.out ⟨rfl, HS.out, Wrote.refl _ _⟩

theorem does_any (I : Ids) (s : St) (what n kind who d v : Int) (w : World) (h : SlotsAt w I s) (hi : Inv s) (hn : n ≤ 9223372036854775807) :
    Calls Try.prog 11 #[.pointer (some ⟨I.b, 0, none⟩), .agg #[.int .i64 what, .int .i64 n, .int .i64 kind, .int .i64 who, .int .i64 d, .int .i64 v]] w (Left w I (doesB s (msk what) n kind who d v) (doesS s (msk what) n kind who d v)) := by
  by_cases c0 : msk what = 0
  · exact does_0 I s what n kind who d v w h hi hn c0
  by_cases c1 : msk what = 1
  · exact does_1 I s what n kind who d v w h hi hn c1
  by_cases c2 : msk what = 2
  · exact does_2 I s what n kind who d v w h hi hn c2
  by_cases c3 : msk what = 3
  · exact does_3 I s what n kind who d v w h hi hn c3
  by_cases c4 : msk what = 4
  · exact does_4 I s what n kind who d v w h hi hn c4
  by_cases c5 : msk what = 5
  · exact does_5 I s what n kind who d v w h hi hn c5
  by_cases c6 : msk what = 6
  · exact does_6 I s what n kind who d v w h hi hn c6
  exact does_7 I s what n kind who d v w h hi hn c0 c1 c2 c3 c4 c5 c6

def S1 : St := accept st0 1 5
def S2 : St := accept S1 1 6
def S3 : St := accept S2 17 5
def S4 : St := vote S3 2 2 3 9
theorem inv1 : Inv S1 := inv_accept inv0 1 5
theorem inv2 : Inv S2 := inv_accept inv1 1 6
theorem inv3 : Inv S3 := inv_accept inv2 17 5
theorem inv4 : Inv S4 := inv_vote inv3 2 2 3 9
theorem r1 : onceB st0 st0.acc 1 5 = true := by decide
theorem r2 : onceB S1 S1.acc 1 6 = false := by decide
theorem r3 : onceB S2 S2.acc 17 5 = false := by decide
theorem r4 : aget S3.acc 1 = some 5 := by decide
theorem r5 : voteB S3 2 2 3 9 = true := by decide
theorem r6 : whoL S4 2 2 9 = [3] := by decide
theorem r7 : openI S4.low 16 = true := by decide
theorem r8 : S4.low = 0 := by decide
theorem r9 : S4.view = 0 := by decide

theorem acc1 (I : Ids) (w : World) (h : SlotsAt w I st0) : Calls Try.prog 26 #[.pointer (some ⟨I.b, 0, none⟩), .int .i64 1, .int .i64 5] w (Left w I true S1) := by
  have := accept_any I st0 1 5 w h inv0 (by decide)
  rwa [r1] at this
theorem acc2 (I : Ids) (w : World) (h : SlotsAt w I S1) : Calls Try.prog 26 #[.pointer (some ⟨I.b, 0, none⟩), .int .i64 1, .int .i64 6] w (Left w I false S2) := by
  have := accept_any I S1 1 6 w h inv1 (by decide)
  rwa [r2] at this
theorem acc3 (I : Ids) (w : World) (h : SlotsAt w I S2) : Calls Try.prog 26 #[.pointer (some ⟨I.b, 0, none⟩), .int .i64 17, .int .i64 5] w (Left w I false S3) := by
  have := accept_any I S2 17 5 w h inv2 (by decide)
  rwa [r3] at this
theorem acd1 (I : Ids) (w : World) (h : SlotsAt w I S3) : Calls Try.prog 13 #[.pointer (some ⟨I.b, 0, none⟩), .int .i64 1] w fun e w' => e = .returned (.tuple #[.int .i64 5, .bool true]) ∧ w = w' := by
  have := accepted_any I S3 1 w h
  rwa [r4] at this
theorem vot1 (I : Ids) (w : World) (h : SlotsAt w I S3) : Calls Try.prog 27 #[.pointer (some ⟨I.b, 0, none⟩), .int .i64 2, .int .i64 2, .int .i64 3, .int .i64 9] w (Left w I true S4) := by
  have := vote_any I S3 2 2 3 9 w h inv3 (by decide)
  rwa [r5] at this
theorem who1 (I : Ids) (w : World) (h : SlotsAt w I S4) : Calls Try.prog 12 #[.pointer (some ⟨I.b, 0, none⟩), .int .i64 2, .int .i64 2, .int .i64 9] w
    fun e w' => ∃ g cap : Nat, e = .returned (.slice (some ⟨g, 0, none⟩) 1 cap) ∧ w'.cell? ⟨g, 0, none⟩ = some (.int .i64 3) ∧ Below w.heap.size w w' := by
  refine (who_any I S4 2 2 9 w h).mono ?_
  rintro e w' ⟨v, rfl, hown, hb⟩
  rw [r6] at hown
  obtain ⟨g, cap, rfl⟩ : ∃ g cap : Nat, v = .slice (some ⟨g, 0, none⟩) 1 cap := by
    rcases hown.2 with ⟨_, h0⟩ | ⟨g, cap, cur, hv, _⟩
    · simp at h0
    · exact ⟨g, cap, hv⟩
  refine ⟨g, cap, rfl, ?_, hb⟩
  rw [hown.cellAt 0 (by simp)]
  rfl
theorem opn1 (I : Ids) (w : World) (h : SlotsAt w I S4) : Calls Try.prog 16 #[.pointer (some ⟨I.b, 0, none⟩), .int .i64 16] w fun e w' => e = .returned (.bool true) ∧ w = w' := by
  have := open_any I.b S4.low 16 w h.c0 inv4.low0 (by decide)
  rwa [r7] at this
theorem low1 (I : Ids) (w : World) (h : SlotsAt w I S4) : Calls Try.prog 17 #[.pointer (some ⟨I.b, 0, none⟩)] w fun e w' => e = .returned (.int .i64 0) ∧ w = w' := by
  have := low_any I.b S4.low w h.c0
  rwa [r8] at this
theorem view1 (I : Ids) (w : World) (h : SlotsAt w I S4) : Calls Try.prog 15 #[.pointer (some ⟨I.b, 0, none⟩)] w fun e w' => e = .returned (.int .i64 0) ∧ w = w' := by
  have := view_any I.b S4.view w h.c1
  rwa [r9] at this

set_option maxRecDepth 100000 in
set_option maxHeartbeats 3200000 in
theorem head_any (w : World) : Calls Try.prog 9 #[] w fun e w' => e = .returned (.bool true) ∧ Below w.heap.size w w' := by
  go_enter Try.func9, Try.ntmps9
  go_wp2_with (go_at_call 10; refine (new_any _).mono ?_; rintro e w1 ⟨I, rfl, hs1, hb1, hI⟩; have H1 := Lib.hid hs1; have B1 := Lib.hid hb1; have HI := Lib.hid hI; clear hs1 hb1 hI)
  refine (acc1 I _ H1.out).mono ?_
  rintro e w2 ⟨rfl, hs, ht⟩
  have H2 := Lib.hid hs
  have T2 := Lib.hid ht
  clear hs ht
  go_wp2_with fail
  refine (acc2 I _ H2.out).mono ?_
  rintro e w3 ⟨rfl, hs, ht⟩
  have H3 := Lib.hid hs
  have T3 := Lib.hid ht
  clear hs ht
  go_wp2_with fail
  refine (acc3 I _ H3.out).mono ?_
  rintro e w4 ⟨rfl, hs, ht⟩
  have H4 := Lib.hid hs
  have T4 := Lib.hid ht
  clear hs ht
  go_wp2_with fail
  refine (acd1 I _ H4.out).mono ?_
  rintro e w5 ⟨rfl, rfl⟩
  go_wp2_with fail
  refine (vot1 I _ H4.out).mono ?_
  rintro e w6 ⟨rfl, hs, ht⟩
  have H6 := Lib.hid hs
  have T6 := Lib.hid ht
  clear hs ht
  go_wp2_with fail
  refine (who1 I _ H6.out).mono ?_
  rintro e w7 ⟨g, cap, rfl, hc, hb⟩
  have H7 := Lib.hid (H6.out.below hb)
  have T7 := Lib.hid hb
  clear hb
  go_wp2_with (first | (go_at_call 16; refine (opn1 I _ H7.out).mono ?_; rintro e w' ⟨rfl, rfl⟩) | (go_at_call 17; refine (low1 I _ H7.out).mono ?_; rintro e w' ⟨rfl, rfl⟩) | (go_at_call 15; refine (view1 I _ H7.out).mono ?_; rintro e w' ⟨rfl, rfl⟩))
  go_ret
  refine ⟨rfl, B1.out.trans ?_⟩
  refine (((T2.out.trans T3.out).trans T4.out).trans T6.out).below B1.out.size HI.out |>.trans ?_
  exact T7.out.mono (Nat.le_trans B1.out.size (Nat.le_trans T2.out.size (Nat.le_trans T3.out.size (Nat.le_trans T4.out.size T6.out.size))))
end Go.Proofs.Ytelmgaaofighpaa
