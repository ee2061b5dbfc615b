/- A route that a law holds: what its calls leave; all keys moved. -/
import Derived.Test.YtemgcliihbjjiaaDoorRhead
namespace Go.Proofs.YtemgcliihbjjiaaDoor
open Go.RowKit Go.My

def RtOwn (w : World) (r : Nat) (L : List Pc) (W : World) : Prop := w.heap.size ≤ r ∧ Below w.heap.size w W ∧ ∃ a cap, RtAt W r a cap L
theorem RtOwn.below {w W W' : World} {r : Nat} {L : List Pc} (h : RtOwn w r L W) (hb : Below W.heap.size W W') : RtOwn w r L W' := by
  obtain ⟨h1, h2, a, cap, h3⟩ := h
  exact ⟨h1, h2.trans (hb.mono h2.size), a, cap, h3.below hb⟩
theorem RtOwn.ok {w W : World} {r : Nat} {L : List Pc} (h : RtOwn w r L W) : Ok L := by obtain ⟨_, _, _, _, h⟩ := h; exact h.ok
theorem RtOwn.lt {w W : World} {r : Nat} {L : List Pc} (h : RtOwn w r L W) : r < W.heap.size := by obtain ⟨_, _, _, _, h⟩ := h; exact lt_of_heap h.cell
theorem RtOwn.type {w W : World} {r : Nat} {L : List Pc} (h : RtOwn w r L W) : ∃ c, W.heap[r]? = some (.cells c 62 (0, 0)) := by obtain ⟨_, _, _, _, h⟩ := h; exact ⟨_, h.cell⟩
theorem own_of {w W w' : World} {l : List Pc} {e : Ending} (h : OfLeft W l e w') (hb : Below w.heap.size w W) (ho : ofErr l = none) : ∃ r, e = .returned (.tuple #[.pointer (some ⟨r, 0, none⟩), .nilIface]) ∧ RtOwn w r l w' ∧ Below W.heap.size W w' := by
  obtain ⟨h1, h2 | ⟨q, h2, _⟩⟩ := h
  · obtain ⟨_, r, a, cap, he, hr, hat⟩ := h2
    exact ⟨r, he, ⟨Nat.le_trans hb.size hr, hb.trans (h1.mono hb.size), a, cap, hat⟩, h1⟩
  · rw [ho] at h2; cases h2
theorem own_of_err {W w' : World} {l : List Pc} {e : Ending} {q : Int × Int} (h : OfLeft W l e w') (ho : ofErr l = some q) : e = .returned (.tuple #[.pointer none, rErr q.1 q.2]) ∧ Below W.heap.size W w' := by
  obtain ⟨h1, h2 | ⟨q', h2, h3⟩⟩ := h
  · rw [ho] at h2; cases h2.1
  · rw [ho] at h2
    obtain rfl : q = q' := by simpa using h2
    exact ⟨h3, h1⟩
theorem own_move {w W : World} {r : Nat} {L : List Pc} (h : RtOwn w r L W) (f t : ByteArray) (s : Int) : Calls Tryd.prog 11 #[.pointer (some ⟨r, 0, none⟩), .string f, .string t, .int .i64 s] W fun e w' => e = .returned (errQ (moveErr L f t s)) ∧ RtOwn w r (moveL L f t s) w' ∧ Wrote [r] W w' := by
  obtain ⟨h1, h2, a, cap, h3⟩ := h
  refine (move_11 r a cap L f t s W h3).mono ?_
  rintro e w' ⟨hw, he, a', cap', hat⟩
  exact ⟨he, ⟨h1, h2.trans (hw.below h2.size fun k hk => by
    obtain rfl : k = r := by simpa using hk
    exact h1), a', cap', hat⟩, hw⟩
theorem own_owner {w W : World} {r : Nat} {L : List Pc} (h : RtOwn w r L W) (k : ByteArray) : Calls Tryd.prog 12 #[.pointer (some ⟨r, 0, none⟩), .string k] W fun e w' => e = .returned (.agg #[.string (ow pc0 L k).fr, .int .i64 (ow pc0 L k).sh, .int .i64 (ow pc0 L k).ep]) ∧ RtOwn w r L w' ∧ Below W.heap.size W w' := by
  have h0 := h
  obtain ⟨h1, h2, a, cap, h3⟩ := h
  exact (owner_12 r a cap L k W h3).mono fun e w' ⟨he, hb⟩ => ⟨he, h0.below hb, hb⟩
theorem own_pieces {w W : World} {r : Nat} {L : List Pc} (h : RtOwn w r L W) : Calls Tryd.prog 13 #[.pointer (some ⟨r, 0, none⟩)] W fun e w' => RowLeft W L e w' ∧ RtOwn w r L w' ∧ Below W.heap.size W w' := by
  have h0 := h
  obtain ⟨h1, h2, a, cap, h3⟩ := h
  refine (pieces_13 r a cap L W h3).mono ?_
  rintro e w' ⟨v, he, ho, hb⟩
  exact ⟨⟨v, he, ho, hb⟩, h0.below hb, hb⟩
theorem own_one {w W : World} {r : Nat} {L : List Pc} (h : RtOwn w r L W) (f t : ByteArray) : Calls Tryd.prog 15 #[.pointer (some ⟨r, 0, none⟩), .string f, .string t] W fun e w' => e = .returned (.tuple #[.agg #[.string (oneX L f t).fr, .int .i64 (oneX L f t).sh, .int .i64 (oneX L f t).ep], .bool (oneB L f t)]) ∧ RtOwn w r L w' ∧ Below W.heap.size W w' := by
  have h0 := h
  obtain ⟨h1, h2, a, cap, h3⟩ := h
  exact (one_15 r a cap L f t W h3).mono fun e w' ⟨he, hb⟩ => ⟨he, h0.below hb, hb⟩
/-- An error is none, or one. -/
theorem errQ_none {o : Option (Int × Int)} (h : o = none) : errQ o = .nilIface := by rw [h]; rfl
theorem errQ_some {o : Option (Int × Int)} (h : o ≠ none) : ∃ T v, errQ o = .iface T v := by
  cases o with
  | none => exact absurd rfl h
  | some q => exact errOf_form _ _

/-! ### all keys moved to a shard -/
theorem empty_of_less {a : ByteArray} (h : lessK ByteArray.empty a = false) : a = ByteArray.empty := lessK_anti (lessK_empty a) h |>.symm ▸ rfl
theorem all_in (k : ByteArray) : inB ByteArray.empty ByteArray.empty k = true := by
  unfold inB
  rw [lessK_empty]
  rfl
theorem all_from {l : List Pc} (h : Ok l) {s : Int} (he : moveErr l ByteArray.empty ByteArray.empty s = none) (k : ByteArray) : (ow pc0 (moveL l ByteArray.empty ByteArray.empty s) k).fr = (ow pc0 l k).fr := by
  rw [moveL_none he]
  have m := moves_of he
  obtain ⟨P, o, os, S, p⟩ := parts_of h (ranged_lt m.rg)
  obtain ⟨h1, h2⟩ := p.ow_in s (all_in k)
  rw [h1, h2]
  have ho : o.fr = ByteArray.empty := empty_of_less p.ho
  have e : (bump s ⟨ByteArray.empty, o.sh, o.ep⟩) = bump s o := by unfold bump; rw [ho]
  rw [e, ow_map (f := bump s) os (fun _ _ => rfl) o _ rfl k]
  rfl
end Go.Proofs.YtemgcliihbjjiaaDoor
