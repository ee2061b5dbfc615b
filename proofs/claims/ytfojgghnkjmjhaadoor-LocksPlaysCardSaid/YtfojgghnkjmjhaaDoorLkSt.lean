/- Locks: the state of a law's locks, and the calls on it. -/
import Derived.Test.YtfojgghnkjmjhaaDoorLkHead
import Derived.Test.YtfojgghnkjmjhaaDoorGenw
import Derived.Deep.RegionWith
import Derived.BigQuiet
namespace Go.Proofs.YtfojgghnkjmjhaaDoor.Locks
open Go.RowKit Go.My

structure LkSt (w : World) (b m : Nat) (L : LMap) (W : World) : Prop where
  at_ : LocksAt W b m L
  fine : Fine L
  below : Below w.heap.size w W
  m0 : w.heap.size ≤ m
section
variable {w W W' : World} {b m : Nat} {L : LMap}
theorem LkSt.keep (h : LkSt w b m L W) (hb : Below W.heap.size W W') : LkSt w b m L W' := ⟨h.at_.below hb, h.fine, h.below.trans (hb.mono h.below.size), h.m0⟩
theorem LkSt.drewN (h : LkSt w b m L W) (n : Nat) : LkSt w b m L (W.drewN n) := ⟨h.at_.drewN n, h.fine, ⟨h.below.os, h.below.tape, h.below.output, h.below.size, h.below.block⟩, h.m0⟩
theorem st_new {e : Ending} (hw : Below w.heap.size w W) (h : ∃ b m, e = .returned (.pointer (some ⟨b, 0, none⟩)) ∧ LocksAt W' b m [] ∧ Below W.heap.size W W' ∧ W.heap.size ≤ m) : ∃ b m, e = .returned (.pointer (some ⟨b, 0, none⟩)) ∧ LkSt w b m [] W' := by
  obtain ⟨b, m, h1, h2, h3, h4⟩ := h
  exact ⟨b, m, h1, h2, fine_nil, hw.trans (h3.mono hw.size), Nat.le_trans hw.size h4⟩
theorem st_lock (h : LkSt w b m L W) (who : Int) (a : Option Addr) (cap : Nat) (keys : List ByteArray) (hk : StrsAt w a keys) (hl : keys.length ≤ 10000) :
    Calls Tryd.prog 7 #[.pointer (some ⟨b, 0, none⟩), .int .i64 who, .slice a keys.length cap] W fun e W' => e = .returned (errV (lockE L who keys)) ∧ LkSt w b m (lockL L who keys) W' := by
  refine (lock_any b m L who a cap keys W h.at_ h.fine (hk.below h.below) hl).mono ?_
  rintro e W' ⟨h1, h2, h3⟩
  exact ⟨h1, h2, fine_lock h.fine who keys, h.below.trans (h3.below h.below.size fun k hk => by simp at hk; rw [hk]; exact h.m0), h.m0⟩
theorem st_unlock (h : LkSt w b m L W) (who : Int) :
    Calls Tryd.prog 12 #[.pointer (some ⟨b, 0, none⟩), .int .i64 who] W fun e W' => e = .returned (.tuple #[]) ∧ LkSt w b m (unlockL L who) W' := by
  refine (unlock_any b m L who W h.at_ h.fine).mono ?_
  rintro e W' ⟨h1, h2, h3⟩
  exact ⟨h1, h2, fine_unlock h.fine who, h.below.trans (h3.below h.below.size fun k hk => by simp at hk; rw [hk]; exact h.m0), h.m0⟩
theorem st_lock2 (h : LkSt w b m L W) (who : Int) (a : Option Addr) (cap : Nat) (keys : List ByteArray) (hk : StrsAt w a keys) (hl : keys.length ≤ 10000) :
    Calls Tryd.prog 7 #[.pointer (some ⟨b, 0, none⟩), .int .i64 who, .slice a keys.length cap] W fun e W' => e = .returned (errV (lockE L who keys)) ∧ LkSt w b m (lockL L who keys) W' ∧ Wrote [m] W W' := by
  refine (lock_any b m L who a cap keys W h.at_ h.fine (hk.below h.below) hl).mono ?_
  rintro e W' ⟨h1, h2, h3⟩
  exact ⟨h1, ⟨h2, fine_lock h.fine who keys, h.below.trans (h3.below h.below.size fun k hk => by simp at hk; rw [hk]; exact h.m0), h.m0⟩, h3⟩
theorem st_unlock2 (h : LkSt w b m L W) (who : Int) :
    Calls Tryd.prog 12 #[.pointer (some ⟨b, 0, none⟩), .int .i64 who] W fun e W' => e = .returned (.tuple #[]) ∧ LkSt w b m (unlockL L who) W' ∧ Wrote [m] W W' := by
  refine (unlock_any b m L who W h.at_ h.fine).mono ?_
  rintro e W' ⟨h1, h2, h3⟩
  exact ⟨h1, ⟨h2, fine_unlock h.fine who, h.below.trans (h3.below h.below.size fun k hk => by simp at hk; rw [hk]; exact h.m0), h.m0⟩, h3⟩
theorem st_keys (h : LkSt w b m L W) (who : Int) :
    Calls Tryd.prog 16 #[.pointer (some ⟨b, 0, none⟩), .int .i64 who] W fun e W' => ∃ a cap, e = .returned (.slice a (keysOf L who).length cap) ∧ (StrsAt W' a (keysOf L who) ∧ (∀ g o, a = some ⟨g, o, none⟩ → w.heap.size ≤ g)) ∧ LkSt w b m L W' ∧ Below W.heap.size W W' := by
  refine (keys_any b m L who W h.at_ h.fine).mono ?_
  rintro e W' ⟨v, rfl, hrow, hb⟩
  obtain ⟨a, cap, rfl⟩ := row_slice hrow
  refine ⟨a, cap, rfl, ⟨row_liesAt (base := W.heap.size) (e := 9) (cap := cap) (by rw [show (keysOf L who).flatMap strL = (keysOf L who).map Value.string from flat_one _ _]; exact hrow) (fun _ => rfl) rfl, ?_⟩, h.keep hb, hb⟩
  rintro g o rfl
  rcases hrow.2 with ⟨h0, _⟩ | ⟨g', cap', cur, h0, h1, _⟩
  · cases h0
  · injection h0 with h0
    cases h0
    exact Nat.le_trans h.below.size h1
theorem keysOf_le (h : LkSt w b m L W) (who : Int) : (keysOf L who).length ≤ 128 := by
  rw [keysOf_len]
  exact Nat.le_trans (List.length_filter_le _ _) h.fine.small
/-- a row of keys of the call's own stays, whatever is locked or left -/
theorem strs_keep {w1 : World} {a : Option Addr} {l : List ByteArray} (h : LkSt w b m L W) (hr : StrsAt W a l) (hw : Wrote [m] W w1) : StrsAt w1 a l := rows_map h.at_ hr w1 hw
/-- a call's cells, in whatever world that comes later -/
theorem OpsAt.get {a : Option Addr} {l : List LOp} (h : OpsAt w a l) {i : Nat} {x : LOp} (hi : l[i]? = some x) :
    ∃ g o ka cap, a = some ⟨g, o, none⟩ ∧ (∀ W, Below w.heap.size w W → W.cell? ⟨g, o + i * 3, none⟩ = some (.int .i64 x.what) ∧ W.cell? ⟨g, o + i * 3 + 1, none⟩ = some (.int .i64 x.who) ∧ W.cell? ⟨g, o + i * 3 + 2, none⟩ = some (.slice ka x.keys.length cap)) ∧ StrsAt w ka x.keys ∧ (Lit.int .i64 x.what).wf = true := by
  obtain ⟨g, o, ka, kc, h1, h2, h3, h4, h5, h6, _, h7⟩ := h.at hi
  exact ⟨g, o, ka, kc, h1, fun W hW => ⟨(hW.cell (p := ⟨g, _, none⟩) h2).trans h3, (hW.cell (p := ⟨g, _, none⟩) h2).trans h4, (hW.cell (p := ⟨g, _, none⟩) h2).trans h5⟩, h6, h7⟩
end
end Go.Proofs.YtfojgghnkjmjhaaDoor.Locks
