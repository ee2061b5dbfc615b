/- The document's Do: a call by its number. -/
import Derived.Test.YtelmgaaofighpaaSd4
namespace Go.Proofs.Ytelmgaaofighpaa
open Go.RowKit Go.My Go.My.Slots

theorem docL_below {w w0 w' : World} {base dd : Nat} {b : Bool} {s' : St} {e : Ending} (hb : Bk base w w0) (h : DocL w0 base dd b s' e w') : DocL w base dd b s' e w' :=
  ⟨h.1, h.2.1, hb.trans h.2.2⟩

set_option maxRecDepth 100000 in
set_option maxHeartbeats 3200000 in
theorem twin_0 (base dd : Nat) (u : Dv) (s : St) (what n kind who d v : Int) (w : World) (h : DocAt w base dd u s) (hi : Inv s) (hl : s.acc.length ≤ 10000 ∧ s.dec.length ≤ 10000 ∧ s.votes.length ≤ 10000 ∧ (proofsL s).length ≤ 10000) (hc : msk what = 0) :
    Calls Try.prog 21 #[.pointer (some ⟨dd, 0, none⟩), .agg #[.int .i64 what, .int .i64 n, .int .i64 kind, .int .i64 who, .int .i64 d, .int .i64 v]] w (DocL w base dd (doesB s (msk what) n kind who d v) (doesS s (msk what) n kind who d v)) := by
  have E1 : doesB s (msk what) n kind who d v = onceB s s.acc n d := by simp [doesB, hc]
  have E2 : doesS s (msk what) n kind who d v = accept s n d := by simp [doesS, hc]
  rw [E1, E2]
  have HB : Hid (Below w.heap.size w (w.alloc (.cells #[.int .i64 what, .int .i64 n, .int .i64 kind, .int .i64 who, .int .i64 d, .int .i64 v] 28))) := (Below.refl _ _).alloc (Nat.le_refl _) _
  have HB2 : Hid (Bk base w (w.alloc (.cells #[.int .i64 what, .int .i64 n, .int .i64 kind, .int .i64 who, .int .i64 d, .int .i64 v] 28))) := Bk.of_below HB.out (Nat.le_trans h.lo (Nat.le_of_lt h.lt))
  have HS := Lib.hid (h.below HB.out)
  have HL := Lib.hid hl
  have HI := Lib.hid hi
  have t0 : (bits .and .i64 what 7 == 0) = true := by rw [show bits .and .i64 what 7 = 0 from hc]; rfl
  clear h hi hl E1 E2 hc
  go_enter Try.func21, Try.ntmps21
  go_wp2_with (go_at_call 35; refine (daccept_any base dd u s n d _ HS.out HI.out HL.out.1).mono ?_; rintro e w' ⟨rfl, hs', ht'⟩; have HS' := Lib.hid hs'; have HT' := Lib.hid ht'; clear hs' ht')
  go_ret
  exact docL_below HB2.out ⟨rfl, HS'.out, HT'.out⟩

set_option maxRecDepth 100000 in
set_option maxHeartbeats 3200000 in
theorem twin_1 (base dd : Nat) (u : Dv) (s : St) (what n kind who d v : Int) (w : World) (h : DocAt w base dd u s) (hi : Inv s) (hl : s.acc.length ≤ 10000 ∧ s.dec.length ≤ 10000 ∧ s.votes.length ≤ 10000 ∧ (proofsL s).length ≤ 10000) (hc : msk what = 1) :
    Calls Try.prog 21 #[.pointer (some ⟨dd, 0, none⟩), .agg #[.int .i64 what, .int .i64 n, .int .i64 kind, .int .i64 who, .int .i64 d, .int .i64 v]] w (DocL w base dd (doesB s (msk what) n kind who d v) (doesS s (msk what) n kind who d v)) := by
  have E1 : doesB s (msk what) n kind who d v = onceB s s.dec n d := by simp [doesB, hc]
  have E2 : doesS s (msk what) n kind who d v = decideS s n d := by simp [doesS, hc]
  rw [E1, E2]
  have HB : Hid (Below w.heap.size w (w.alloc (.cells #[.int .i64 what, .int .i64 n, .int .i64 kind, .int .i64 who, .int .i64 d, .int .i64 v] 28))) := (Below.refl _ _).alloc (Nat.le_refl _) _
  have HB2 : Hid (Bk base w (w.alloc (.cells #[.int .i64 what, .int .i64 n, .int .i64 kind, .int .i64 who, .int .i64 d, .int .i64 v] 28))) := Bk.of_below HB.out (Nat.le_trans h.lo (Nat.le_of_lt h.lt))
  have HS := Lib.hid (h.below HB.out)
  have HL := Lib.hid hl
  have HI := Lib.hid hi
  have t0 : (bits .and .i64 what 7 == 0) = false := by rw [show bits .and .i64 what 7 = 1 from hc]; rfl
  have t1 : (bits .and .i64 what 7 == 1) = true := by rw [show bits .and .i64 what 7 = 1 from hc]; rfl
  clear h hi hl E1 E2 hc
  go_enter Try.func21, Try.ntmps21
  go_wp2_with (go_at_call 36; refine (ddecide_any base dd u s n d _ HS.out HI.out HL.out.2.1).mono ?_; rintro e w' ⟨rfl, hs', ht'⟩; have HS' := Lib.hid hs'; have HT' := Lib.hid ht'; clear hs' ht')
  go_ret
  exact docL_below HB2.out ⟨rfl, HS'.out, HT'.out⟩

set_option maxRecDepth 100000 in
set_option maxHeartbeats 3200000 in
theorem twin_2 (base dd : Nat) (u : Dv) (s : St) (what n kind who d v : Int) (w : World) (h : DocAt w base dd u s) (hi : Inv s) (hl : s.acc.length ≤ 10000 ∧ s.dec.length ≤ 10000 ∧ s.votes.length ≤ 10000 ∧ (proofsL s).length ≤ 10000) (hc : msk what = 2) :
    Calls Try.prog 21 #[.pointer (some ⟨dd, 0, none⟩), .agg #[.int .i64 what, .int .i64 n, .int .i64 kind, .int .i64 who, .int .i64 d, .int .i64 v]] w (DocL w base dd (doesB s (msk what) n kind who d v) (doesS s (msk what) n kind who d v)) := by
  have E1 : doesB s (msk what) n kind who d v = voteB s kind n who d := by simp [doesB, hc]
  have E2 : doesS s (msk what) n kind who d v = vote s kind n who d := by simp [doesS, hc]
  rw [E1, E2]
  have HB : Hid (Below w.heap.size w (w.alloc (.cells #[.int .i64 what, .int .i64 n, .int .i64 kind, .int .i64 who, .int .i64 d, .int .i64 v] 28))) := (Below.refl _ _).alloc (Nat.le_refl _) _
  have HB2 : Hid (Bk base w (w.alloc (.cells #[.int .i64 what, .int .i64 n, .int .i64 kind, .int .i64 who, .int .i64 d, .int .i64 v] 28))) := Bk.of_below HB.out (Nat.le_trans h.lo (Nat.le_of_lt h.lt))
  have HS := Lib.hid (h.below HB.out)
  have HL := Lib.hid hl
  have HI := Lib.hid hi
  have t0 : (bits .and .i64 what 7 == 0) = false := by rw [show bits .and .i64 what 7 = 2 from hc]; rfl
  have t1 : (bits .and .i64 what 7 == 1) = false := by rw [show bits .and .i64 what 7 = 2 from hc]; rfl
  have t2 : (bits .and .i64 what 7 == 2) = true := by rw [show bits .and .i64 what 7 = 2 from hc]; rfl
  clear h hi hl E1 E2 hc
  go_enter Try.func21, Try.ntmps21
  go_wp2_with (go_at_call 37; refine (dvote_any base dd u s kind n who d _ HS.out HI.out HL.out.2.2.1).mono ?_; rintro e w' ⟨rfl, hs', ht'⟩; have HS' := Lib.hid hs'; have HT' := Lib.hid ht'; clear hs' ht')
  go_ret
  exact docL_below HB2.out ⟨rfl, HS'.out, HT'.out⟩

set_option maxRecDepth 100000 in
set_option maxHeartbeats 3200000 in
theorem twin_3 (base dd : Nat) (u : Dv) (s : St) (what n kind who d v : Int) (w : World) (h : DocAt w base dd u s) (hi : Inv s) (hl : s.acc.length ≤ 10000 ∧ s.dec.length ≤ 10000 ∧ s.votes.length ≤ 10000 ∧ (proofsL s).length ≤ 10000) (hc : msk what = 3) :
    Calls Try.prog 21 #[.pointer (some ⟨dd, 0, none⟩), .agg #[.int .i64 what, .int .i64 n, .int .i64 kind, .int .i64 who, .int .i64 d, .int .i64 v]] w (DocL w base dd (doesB s (msk what) n kind who d v) (doesS s (msk what) n kind who d v)) := by
  have E1 : doesB s (msk what) n kind who d v = voteB s kind n who d := by simp [doesB, hc]
  have E2 : doesS s (msk what) n kind who d v = vote s kind n who d := by simp [doesS, hc]
  rw [E1, E2]
  have HB : Hid (Below w.heap.size w (w.alloc (.cells #[.int .i64 what, .int .i64 n, .int .i64 kind, .int .i64 who, .int .i64 d, .int .i64 v] 28))) := (Below.refl _ _).alloc (Nat.le_refl _) _
  have HB2 : Hid (Bk base w (w.alloc (.cells #[.int .i64 what, .int .i64 n, .int .i64 kind, .int .i64 who, .int .i64 d, .int .i64 v] 28))) := Bk.of_below HB.out (Nat.le_trans h.lo (Nat.le_of_lt h.lt))
  have HS := Lib.hid (h.below HB.out)
  have HL := Lib.hid hl
  have HI := Lib.hid hi
  have t0 : (bits .and .i64 what 7 == 0) = false := by rw [show bits .and .i64 what 7 = 3 from hc]; rfl
  have t1 : (bits .and .i64 what 7 == 1) = false := by rw [show bits .and .i64 what 7 = 3 from hc]; rfl
  have t2 : (bits .and .i64 what 7 == 2) = false := by rw [show bits .and .i64 what 7 = 3 from hc]; rfl
  have t3 : (bits .and .i64 what 7 == 3) = true := by rw [show bits .and .i64 what 7 = 3 from hc]; rfl
  clear h hi hl E1 E2 hc
  go_enter Try.func21, Try.ntmps21
  go_wp2_with (go_at_call 37; refine (dvote_any base dd u s kind n who d _ HS.out HI.out HL.out.2.2.1).mono ?_; rintro e w' ⟨rfl, hs', ht'⟩; have HS' := Lib.hid hs'; have HT' := Lib.hid ht'; clear hs' ht')
  go_ret
  exact docL_below HB2.out ⟨rfl, HS'.out, HT'.out⟩

set_option maxRecDepth 100000 in
set_option maxHeartbeats 3200000 in
theorem twin_4 (base dd : Nat) (u : Dv) (s : St) (what n kind who d v : Int) (w : World) (h : DocAt w base dd u s) (hi : Inv s) (hl : s.acc.length ≤ 10000 ∧ s.dec.length ≤ 10000 ∧ s.votes.length ≤ 10000 ∧ (proofsL s).length ≤ 10000) (hc : msk what = 4) :
    Calls Try.prog 21 #[.pointer (some ⟨dd, 0, none⟩), .agg #[.int .i64 what, .int .i64 n, .int .i64 kind, .int .i64 who, .int .i64 d, .int .i64 v]] w (DocL w base dd (doesB s (msk what) n kind who d v) (doesS s (msk what) n kind who d v)) := by
  have E1 : doesB s (msk what) n kind who d v = proveB s n v := by simp [doesB, hc]
  have E2 : doesS s (msk what) n kind who d v = prove s n v d := by simp [doesS, hc]
  rw [E1, E2]
  have HB : Hid (Below w.heap.size w (w.alloc (.cells #[.int .i64 what, .int .i64 n, .int .i64 kind, .int .i64 who, .int .i64 d, .int .i64 v] 28))) := (Below.refl _ _).alloc (Nat.le_refl _) _
  have HB2 : Hid (Bk base w (w.alloc (.cells #[.int .i64 what, .int .i64 n, .int .i64 kind, .int .i64 who, .int .i64 d, .int .i64 v] 28))) := Bk.of_below HB.out (Nat.le_trans h.lo (Nat.le_of_lt h.lt))
  have HS := Lib.hid (h.below HB.out)
  have HL := Lib.hid hl
  have HI := Lib.hid hi
  have t0 : (bits .and .i64 what 7 == 0) = false := by rw [show bits .and .i64 what 7 = 4 from hc]; rfl
  have t1 : (bits .and .i64 what 7 == 1) = false := by rw [show bits .and .i64 what 7 = 4 from hc]; rfl
  have t2 : (bits .and .i64 what 7 == 2) = false := by rw [show bits .and .i64 what 7 = 4 from hc]; rfl
  have t3 : (bits .and .i64 what 7 == 3) = false := by rw [show bits .and .i64 what 7 = 4 from hc]; rfl
  have t4 : (bits .and .i64 what 7 == 4) = true := by rw [show bits .and .i64 what 7 = 4 from hc]; rfl
  clear h hi hl E1 E2 hc
  go_enter Try.func21, Try.ntmps21
  go_wp2_with (go_at_call 38; refine (dprove_any base dd u s n v d _ HS.out HI.out HL.out.2.2.2).mono ?_; rintro e w' ⟨rfl, hs', ht'⟩; have HS' := Lib.hid hs'; have HT' := Lib.hid ht'; clear hs' ht')
  go_ret
  exact docL_below HB2.out ⟨rfl, HS'.out, HT'.out⟩

set_option maxRecDepth 100000 in
set_option maxHeartbeats 3200000 in
theorem twin_5 (base dd : Nat) (u : Dv) (s : St) (what n kind who d v : Int) (w : World) (h : DocAt w base dd u s) (hi : Inv s) (hl : s.acc.length ≤ 10000 ∧ s.dec.length ≤ 10000 ∧ s.votes.length ≤ 10000 ∧ (proofsL s).length ≤ 10000) (hc : msk what = 5) :
    Calls Try.prog 21 #[.pointer (some ⟨dd, 0, none⟩), .agg #[.int .i64 what, .int .i64 n, .int .i64 kind, .int .i64 who, .int .i64 d, .int .i64 v]] w (DocL w base dd (doesB s (msk what) n kind who d v) (doesS s (msk what) n kind who d v)) := by
  have E1 : doesB s (msk what) n kind who d v = enterB s n := by simp [doesB, hc]
  have E2 : doesS s (msk what) n kind who d v = enter s n := by simp [doesS, hc]
  rw [E1, E2]
  have HB : Hid (Below w.heap.size w (w.alloc (.cells #[.int .i64 what, .int .i64 n, .int .i64 kind, .int .i64 who, .int .i64 d, .int .i64 v] 28))) := (Below.refl _ _).alloc (Nat.le_refl _) _
  have HB2 : Hid (Bk base w (w.alloc (.cells #[.int .i64 what, .int .i64 n, .int .i64 kind, .int .i64 who, .int .i64 d, .int .i64 v] 28))) := Bk.of_below HB.out (Nat.le_trans h.lo (Nat.le_of_lt h.lt))
  have HS := Lib.hid (h.below HB.out)
  have HL := Lib.hid hl
  have HI := Lib.hid hi
  have t0 : (bits .and .i64 what 7 == 0) = false := by rw [show bits .and .i64 what 7 = 5 from hc]; rfl
  have t1 : (bits .and .i64 what 7 == 1) = false := by rw [show bits .and .i64 what 7 = 5 from hc]; rfl
  have t2 : (bits .and .i64 what 7 == 2) = false := by rw [show bits .and .i64 what 7 = 5 from hc]; rfl
  have t3 : (bits .and .i64 what 7 == 3) = false := by rw [show bits .and .i64 what 7 = 5 from hc]; rfl
  have t4 : (bits .and .i64 what 7 == 4) = false := by rw [show bits .and .i64 what 7 = 5 from hc]; rfl
  have t5 : (bits .and .i64 what 7 == 5) = true := by rw [show bits .and .i64 what 7 = 5 from hc]; rfl
  clear h hi hl E1 E2 hc
  go_enter Try.func21, Try.ntmps21
  go_wp2_with (go_at_call 39; refine (denter_any base dd u s n _ HS.out).mono ?_; rintro e w' ⟨rfl, hs', ht'⟩; have HS' := Lib.hid hs'; have HT' := Lib.hid ht'; clear hs' ht')
  go_ret
  exact docL_below HB2.out ⟨rfl, HS'.out, HT'.out⟩

set_option maxRecDepth 100000 in
set_option maxHeartbeats 3200000 in
theorem twin_6 (base dd : Nat) (u : Dv) (s : St) (what n kind who d v : Int) (w : World) (h : DocAt w base dd u s) (hi : Inv s) (hl : s.acc.length ≤ 10000 ∧ s.dec.length ≤ 10000 ∧ s.votes.length ≤ 10000 ∧ (proofsL s).length ≤ 10000) (hc : msk what = 6) :
    Calls Try.prog 21 #[.pointer (some ⟨dd, 0, none⟩), .agg #[.int .i64 what, .int .i64 n, .int .i64 kind, .int .i64 who, .int .i64 d, .int .i64 v]] w (DocL w base dd (doesB s (msk what) n kind who d v) (doesS s (msk what) n kind who d v)) := by
  have E1 : doesB s (msk what) n kind who d v = cutB s n := by simp [doesB, hc]
  have E2 : doesS s (msk what) n kind who d v = cut s n := by simp [doesS, hc]
  rw [E1, E2]
  have HB : Hid (Below w.heap.size w (w.alloc (.cells #[.int .i64 what, .int .i64 n, .int .i64 kind, .int .i64 who, .int .i64 d, .int .i64 v] 28))) := (Below.refl _ _).alloc (Nat.le_refl _) _
  have HB2 : Hid (Bk base w (w.alloc (.cells #[.int .i64 what, .int .i64 n, .int .i64 kind, .int .i64 who, .int .i64 d, .int .i64 v] 28))) := Bk.of_below HB.out (Nat.le_trans h.lo (Nat.le_of_lt h.lt))
  have HS := Lib.hid (h.below HB.out)
  have HL := Lib.hid hl
  have HI := Lib.hid hi
  have t0 : (bits .and .i64 what 7 == 0) = false := by rw [show bits .and .i64 what 7 = 6 from hc]; rfl
  have t1 : (bits .and .i64 what 7 == 1) = false := by rw [show bits .and .i64 what 7 = 6 from hc]; rfl
  have t2 : (bits .and .i64 what 7 == 2) = false := by rw [show bits .and .i64 what 7 = 6 from hc]; rfl
  have t3 : (bits .and .i64 what 7 == 3) = false := by rw [show bits .and .i64 what 7 = 6 from hc]; rfl
  have t4 : (bits .and .i64 what 7 == 4) = false := by rw [show bits .and .i64 what 7 = 6 from hc]; rfl
  have t5 : (bits .and .i64 what 7 == 5) = false := by rw [show bits .and .i64 what 7 = 6 from hc]; rfl
  have t6 : (bits .and .i64 what 7 == 6) = true := by rw [show bits .and .i64 what 7 = 6 from hc]; rfl
  clear h hi hl E1 E2 hc
  go_enter Try.func21, Try.ntmps21
  go_wp2_with (go_at_call 40; refine (dcut_any base dd u s n _ HS.out HI.out ⟨HL.out.1, HL.out.2.1, HL.out.2.2.1, HL.out.2.2.2⟩).mono ?_; rintro e w' ⟨rfl, hs', ht'⟩; have HS' := Lib.hid hs'; have HT' := Lib.hid ht'; clear hs' ht')
  go_ret
  exact docL_below HB2.out ⟨rfl, HS'.out, HT'.out⟩

set_option maxRecDepth 100000 in
set_option maxHeartbeats 3200000 in
theorem twin_7 (base dd : Nat) (u : Dv) (s : St) (what n kind who d v : Int) (w : World) (h : DocAt w base dd u s) (hi : Inv s) (hl : s.acc.length ≤ 10000 ∧ s.dec.length ≤ 10000 ∧ s.votes.length ≤ 10000 ∧ (proofsL s).length ≤ 10000) (h0 : msk what ≠ 0) (h1 : msk what ≠ 1) (h2 : msk what ≠ 2) (h3 : msk what ≠ 3) (h4 : msk what ≠ 4) (h5 : msk what ≠ 5) (h6 : msk what ≠ 6) :
    Calls Try.prog 21 #[.pointer (some ⟨dd, 0, none⟩), .agg #[.int .i64 what, .int .i64 n, .int .i64 kind, .int .i64 who, .int .i64 d, .int .i64 v]] w (DocL w base dd (doesB s (msk what) n kind who d v) (doesS s (msk what) n kind who d v)) := by
  have E1 : doesB s (msk what) n kind who d v = openB s n := by simp [doesB, h0, h1, h2, h3, h4, h5, h6]
  have E2 : doesS s (msk what) n kind who d v = s := by simp [doesS, h0, h1, h2, h3, h4, h5, h6]
  rw [E1, E2]
  have HB : Hid (Below w.heap.size w (w.alloc (.cells #[.int .i64 what, .int .i64 n, .int .i64 kind, .int .i64 who, .int .i64 d, .int .i64 v] 28))) := (Below.refl _ _).alloc (Nat.le_refl _) _
  have HB2 : Hid (Bk base w (w.alloc (.cells #[.int .i64 what, .int .i64 n, .int .i64 kind, .int .i64 who, .int .i64 d, .int .i64 v] 28))) := Bk.of_below HB.out (Nat.le_trans h.lo (Nat.le_of_lt h.lt))
  have HS := Lib.hid (h.below HB.out)
  have HL := Lib.hid hl
  have HI := Lib.hid hi
  have t0 : (bits .and .i64 what 7 == 0) = false := by simpa [msk] using h0
  have t1 : (bits .and .i64 what 7 == 1) = false := by simpa [msk] using h1
  have t2 : (bits .and .i64 what 7 == 2) = false := by simpa [msk] using h2
  have t3 : (bits .and .i64 what 7 == 3) = false := by simpa [msk] using h3
  have t4 : (bits .and .i64 what 7 == 4) = false := by simpa [msk] using h4
  have t5 : (bits .and .i64 what 7 == 5) = false := by simpa [msk] using h5
  have t6 : (bits .and .i64 what 7 == 6) = false := by simpa [msk] using h6
  clear h hi hl E1 E2 h0 h1 h2 h3 h4 h5 h6
  go_enter Try.func21, Try.ntmps21
  go_wp2_with (go_at_call 41; refine (dopen_any base dd u s n _ HS.out HI.out).mono ?_; rintro e w' ⟨rfl, rfl⟩)
  go_ret
  exact docL_below HB2.out (DocL.same HS.out)

theorem twin_any (base dd : Nat) (u : Dv) (s : St) (what n kind who d v : Int) (w : World) (h : DocAt w base dd u s) (hi : Inv s) (hl : s.acc.length ≤ 10000 ∧ s.dec.length ≤ 10000 ∧ s.votes.length ≤ 10000 ∧ (proofsL s).length ≤ 10000) :
    Calls Try.prog 21 #[.pointer (some ⟨dd, 0, none⟩), .agg #[.int .i64 what, .int .i64 n, .int .i64 kind, .int .i64 who, .int .i64 d, .int .i64 v]] w (DocL w base dd (doesB s (msk what) n kind who d v) (doesS s (msk what) n kind who d v)) := by
  by_cases c0 : msk what = 0
  · exact twin_0 base dd u s what n kind who d v w h hi hl c0
  by_cases c1 : msk what = 1
  · exact twin_1 base dd u s what n kind who d v w h hi hl c1
  by_cases c2 : msk what = 2
  · exact twin_2 base dd u s what n kind who d v w h hi hl c2
  by_cases c3 : msk what = 3
  · exact twin_3 base dd u s what n kind who d v w h hi hl c3
  by_cases c4 : msk what = 4
  · exact twin_4 base dd u s what n kind who d v w h hi hl c4
  by_cases c5 : msk what = 5
  · exact twin_5 base dd u s what n kind who d v w h hi hl c5
  by_cases c6 : msk what = 6
  · exact twin_6 base dd u s what n kind who d v w h hi hl c6
  exact twin_7 base dd u s what n kind who d v w h hi hl c0 c1 c2 c3 c4 c5 c6
end Go.Proofs.Ytelmgaaofighpaa
