/- Merkle: Root. -/
import Derived.Test.YtlepjjcnlcnnfaaDoorMkRight
namespace Go.Proofs.YtlepjjcnlcnnfaaDoor.Merkle
open Go.RowKit Go.My

def merkW : ByteArray := ⟨#[109, 101, 114, 107, 108, 101]⟩
def wrongV (n : Int) : Value := .iface 88 (.agg #[.string merkW, .int .i64 0, .iface 41 (.int .i64 n)])
set_option maxRecDepth 100000 in
theorem wrong_any (n : Int) (w : World) (hn : (n == 0) = false) : Calls Tryd.prog 16 #[.int .i64 n] w fun e w' => e = .returned (wrongV n) ∧ w = w' := by
  go_enter Tryd.func16, Tryd.ntmps16
  go_wp2
  go_ret
  exact ⟨rfl, rfl⟩
/-- what entries may be that came in -/
def Wide (l : List Ent) : Prop := ∀ x ∈ l, (x.key.size ≤ 100000 ∧ x.value.size ≤ 100000) ∧ -9223372036854775808 ≤ x.ver ∧ x.ver ≤ 9223372036854775807
theorem right_good {l : List Ent} (h : rightB l = true) (hw : Wide l) : ∀ x ∈ l, Good x := by
  intro x hx
  obtain ⟨i, hi, he⟩ := List.getElem_of_mem hx
  unfold rightB at h
  rw [Bool.and_eq_true, List.all_eq_true] at h
  have := h.1 i (by simpa using hi)
  unfold okB at this
  rw [List.getElem?_eq_getElem hi, he] at this
  simp only [Bool.and_eq_true, decide_eq_true_eq] at this
  exact ⟨this.1, this.2.1, (hw x hx).2⟩
theorem right_len {l : List Ent} (h : rightB l = true) : l.length ≤ 1024 := by
  unfold rightB at h
  rw [Bool.and_eq_true, decide_eq_true_eq] at h
  exact h.2
/-- a book, each text once -/
structure BkT (w : World) (bB b m : Nat) (v : Value) (T : List ByteArray) : Prop where
  book : Book.BookAt w bB b m v T
  nd : T.Nodup
section
variable {w w' : World} {bB b m tb : Nat} {v : Value} {T : List ByteArray}
theorem BkT.below (h : BkT w bB b m v T) (hb : Below w.heap.size w w') : BkT w' bB b m v T := ⟨h.book.below hb, h.nd⟩
theorem BkT.le (h : BkT w bB b m v T) : bB ≤ w.heap.size := Nat.le_trans h.book.bb (Nat.le_of_lt (lt_of_heap h.book.blk))
theorem TrAt.bkt (h : TrAt w bB b m v T tb) : BkT w bB b m v T := ⟨h.book, h.nd⟩
theorem BkT.tree (h : BkT w bB b m v T) : TrAt (w.alloc (.cells #[.pointer (some ⟨b, 0, none⟩), .nilIface] 53)) bB b m v T w.heap.size :=
  ⟨h.book.below ((Below.refl _ _).alloc (Nat.le_refl _) _), h.nd, heap_alloc_new w _, h.le⟩
end
def RootT (w : World) (bB b m : Nat) (T : List ByteArray) (l : List Ent) (e : Ending) (w' : World) : Prop :=
  ∃ v' T' d t, e = .returned (.tuple #[.int .i64 ((d : Nat) : Int), .nilIface]) ∧ BkT w' bB b m v' T' ∧ Ext T T' ∧ TopAt enc T' l t ∧ At T' d (rootT l.length t) ∧ T'.length ≤ T.length + (2 * l.length + 2) ∧ Fx bB w w'
set_option maxRecDepth 100000 in
theorem root_no (b : Nat) (a : Option Addr) (cap : Nat) (l : List Ent) (w : World) (hL : LiesAt w a 3 entL l) (hm : l.length ≤ 100000) (hs : Wide l) (hr : rightB l = false) :
    Calls Tryd.prog 9 #[.pointer (some ⟨b, 0, none⟩), .slice a l.length cap] w fun e w' => e = .returned (.tuple #[.int .i64 (-1), wrongV 1]) ∧ Below w.heap.size w w' := by
  have HR := Lib.hid (right_any a cap l w hL hm fun x hx => (hs x hx).1)
  unfold RightLeft at HR
  rw [hr] at HR
  have HW := Lib.hid (fun (W : World) => wrong_any 1 W rfl)
  generalize l.length = n at *
  clear hL hm hs hr
  go_enter Tryd.func9, Tryd.ntmps9
  go_wp2_with fail
  refine HR.out.mono ?_
  rintro e w1 ⟨rfl, hb⟩
  have HB := Lib.hid hb
  clear hb
  go_wp2_with (go_at_call 16; refine (HW.out _).mono ?_; rintro e w2 ⟨rfl, rfl⟩)
  go_ret2
  exact ⟨rfl, HB.out⟩
set_option maxRecDepth 100000 in
set_option maxHeartbeats 800000 in
theorem root_yes (bB b m : Nat) (v : Value) (T : List ByteArray) (a : Option Addr) (cap : Nat) (l : List Ent) (w : World) (h : BkT w bB b m v T) (he : EntsAt w bB a l) (hs : Wide l) (hr : rightB l = true) (hT : T.length ≤ 50000) :
    Calls Tryd.prog 9 #[.pointer (some ⟨b, 0, none⟩), .slice a l.length cap] w (RootT w bB b m T l) := by
  have hlen := right_len hr
  have hg := right_good hr hs
  have HR := Lib.hid (right_any a cap l w he.lies (by omega) fun x hx => (hs x hx).1)
  unfold RightLeft at HR
  rw [hr] at HR
  have HT : Hid (∀ W, Below w.heap.size w W → Calls Tryd.prog 18 #[.pointer (some ⟨W.heap.size, 0, none⟩), .slice a l.length cap] (W.alloc (.cells #[.pointer (some ⟨b, 0, none⟩), .nilIface] 53)) (TopT w bB b m W.heap.size T l (2 * l.length + 1))) := fun W hW => by
    have hb : Below w.heap.size w (W.alloc (.cells #[.pointer (some ⟨b, 0, none⟩), .nilIface] 53)) := hW.trans (((Below.refl _ _).alloc (Nat.le_refl _) _).mono hW.size)
    exact (top_any bB b m W.heap.size v T a cap l _ (h.below hW).tree (he.below hb h.le) hg (by omega) (by omega)).mono fun e w' q => q.from hb h.le (Nat.le_refl _)
  obtain ⟨n, hn⟩ : ∃ n, n = l.length := ⟨_, rfl⟩
  have HN := Lib.hid hn
  have HFIN : Hid (∀ (tb : Nat) (T1 : List ByteArray) (t : Nat) (w1 w2 : World) (e : Ending), Ext T T1 → TopAt enc T1 l t → T1.length ≤ T.length + (2 * l.length + 1) → Fx bB w w1 → DigT w1 bB b m tb T1 (rootT l.length t) e w2 → ∃ d : Nat, e = .returned (.int .i64 (d : Int)) ∧ (∃ v', TrAt w2 bB b m v' (T1) tb ∨ ∃ T2, TrAt w2 bB b m v' T2 tb) ∧ RootT w bB b m T l (.returned (.tuple #[.int .i64 (d : Int), .nilIface])) w2) := by
    rintro tb T1 t w1 w2 e x1 t1 k1 f1 ⟨v', T', d, rfl, q2, q3, q4, q5, q6⟩
    exact ⟨d, rfl, ⟨v', .inr ⟨T', q2⟩⟩, v', T', d, t, rfl, q2.bkt, x1.trans q3, t1.ext q3, q4, by omega, f1.trans q6⟩
  have hT1 : ∀ T1 : List ByteArray, T1.length ≤ T.length + (2 * l.length + 1) → T1.length < 65536 := fun T1 q => by omega
  have HT1 := Lib.hid hT1
  rw [← hn] at HR HT HFIN HT1 ⊢
  clear h he hs hr hT hlen hg hn hT1
  go_enter Tryd.func9, Tryd.ntmps9
  go_wp2_with fail
  refine HR.out.mono ?_
  rintro e w1 ⟨rfl, hb⟩
  have HTP := Lib.hid (HT.out w1 hb)
  clear hb
  go_wp2_with fail
  refine HTP.out.mono ?_
  rintro e w2 ⟨v2, T2, t, rfl, q2, x2, t2, k2, f2⟩
  have HRT := Lib.hid (root_any bB b m w1.heap.size v2 T2 n t w2 q2 (HT1.out T2 k2))
  have HF2 := Lib.hid (fun (w3 : World) (e : Ending) (hd : DigT w2 bB b m w1.heap.size T2 (rootT n t) e w3) => HFIN.out w1.heap.size T2 t w2 w3 e x2 t2 k2 f2 hd)
  clear q2 x2 t2 k2 f2
  go_wp2_with fail
  refine HRT.out.mono ?_
  rintro e w3 hd
  obtain ⟨d, rfl, ⟨v3, htr⟩, hroot⟩ := HF2.out w3 e hd
  have c1 : w3.cell? ⟨w1.heap.size, 1, none⟩ = some .nilIface := by
    rcases htr with htr | ⟨T3, htr⟩
    · exact htr.c1
    · exact htr.c1
  have HE := Lib.hid hroot
  clear hd htr hroot
  go_wp2_with fail
  go_ret2
  exact HE.out
end Go.Proofs.YtlepjjcnlcnnfaaDoor.Merkle
