/- Txn: reading bytes. -/
import Derived.Test.YtaifmfnmgnmgbaaGreatDoorTxPlain
import Derived.Test.YtaifmfnmgnmgbaaGreatDoorMkWire
import Derived.Test.YtaifmfnmgnmgbaaGreatDoorLies
import Derived.Laws.Rows
namespace Go.Proofs.YtaifmfnmgnmgbaaGreatDoor.Txn
open Go.RowKit Go.My
open Go.Proofs.YtaifmfnmgnmgbaaGreatDoor.Merkle (uv)

def uvL (c : UInt8) : List Value := [uv c]
/-- a reader, with what is left -/
structure RdAt (w : World) (rb : Nat) (l : List UInt8) (a : Option Addr) (cap : Nat) (rd : Nat) : Prop where
  blk : w.heap[rb]? = some (.cells #[.slice a l.length cap, .int .i64 (rd : Int), .nilIface] 128 (0, 0))
  lies : LiesAt w a 1 uvL l
  room : l.length ≤ cap ∧ cap ≤ 9223372036854775807
  ne : ∀ g o, a = some ⟨g, o, none⟩ → l ≠ [] → g < rb
  small : rd + l.length ≤ 100000
/-- a reader that went wrong -/
def BadAt (w : World) (rb : Nat) : Prop := ∃ v z T ev, w.heap[rb]? = some (.cells #[v, .int .i64 z, .iface T ev] 128 (0, 0))
def StAt (w : World) (rb : Nat) : St → Prop
  | some l => ∃ a cap rd, RdAt w rb l a cap rd
  | none => BadAt w rb
section
variable {w w' : World} {rb cap rd : Nat} {l : List UInt8} {a : Option Addr}
theorem RdAt.c0 (h : RdAt w rb l a cap rd) : w.cell? ⟨rb, 0, none⟩ = some (.slice a l.length cap) := by rw [cell_of_row _ _ _ _ _ _ h.blk]; rfl
theorem RdAt.c1 (h : RdAt w rb l a cap rd) : w.cell? ⟨rb, 1, none⟩ = some (.int .i64 (rd : Int)) := by rw [cell_of_row _ _ _ _ _ _ h.blk]; rfl
theorem RdAt.c2 (h : RdAt w rb l a cap rd) : w.cell? ⟨rb, 2, none⟩ = some .nilIface := by rw [cell_of_row _ _ _ _ _ _ h.blk]; rfl
theorem RdAt.fz (h : RdAt w rb l a cap rd) (k : Nat) : w.frozen? ⟨rb, k, none⟩ = false := by unfold World.frozen?; rw [h.blk]; simp
theorem RdAt.lt (h : RdAt w rb l a cap rd) : rb < w.heap.size := lt_of_heap h.blk
theorem RdAt.below (h : RdAt w rb l a cap rd) (hb : Below w.heap.size w w') : RdAt w' rb l a cap rd :=
  ⟨(hb.block _ h.lt).trans h.blk, h.lies.below hb, h.room, h.ne, h.small⟩
theorem BadAt.lt (h : BadAt w rb) : rb < w.heap.size := by obtain ⟨v, z, T, ev, h⟩ := h; exact lt_of_heap h
theorem BadAt.below (h : BadAt w rb) (hb : Below w.heap.size w w') : BadAt w' rb := by
  have hl := h.lt
  obtain ⟨v, z, T, ev, h⟩ := h
  exact ⟨v, z, T, ev, (hb.block _ hl).trans h⟩
theorem StAt.below {s : St} (h : StAt w rb s) (hb : Below w.heap.size w w') : StAt w' rb s := by
  cases s with
  | none => exact BadAt.below h hb
  | some l =>
    obtain ⟨a, cap, rd, h⟩ := h
    exact ⟨a, cap, rd, h.below hb⟩
theorem StAt.lt {s : St} (h : StAt w rb s) : rb < w.heap.size := by
  cases s with
  | none => exact BadAt.lt h
  | some l =>
    obtain ⟨a, cap, rd, h⟩ := h
    exact h.lt
end
theorem uv_part {w : World} {a : Option Addr} {l : List UInt8} (h : LiesAt w a 1 uvL l) (n : Nat) : LiesAt w (Option.map (fun x => x.add n) a) 1 uvL (l.drop n) := by
  intro i x hi
  rw [List.getElem?_drop] at hi
  obtain ⟨g, o, rfl, hg, hc⟩ := h (n + i) x hi
  refine ⟨g, o + n, by rw [Option.map_some, Addr.add_lit], hg, fun j v hj => ?_⟩
  rw [show o + n + i * 1 + j = o + (n + i) * 1 + j by omega]
  exact hc j v hj
theorem uv_first {w : World} {a : Option Addr} {l : List UInt8} (h : LiesAt w a 1 uvL l) (n : Nat) : LiesAt w a 1 uvL (l.take n) := by
  intro i x hi
  rw [List.getElem?_take] at hi
  split at hi
  · exact h i x hi
  · cases hi
theorem RdAt.cut {w : World} {rb n cap rd : Nat} {l : List UInt8} {a : Option Addr} (h : RdAt w rb l a cap rd) (hn : n ≤ l.length) {a' : Option Addr} {cap' : Nat} (hl : LiesAt w a' 1 uvL (l.drop n)) (hr : l.length - n ≤ cap' ∧ cap' ≤ 9223372036854775807) (hne : ∀ g o, a' = some ⟨g, o, none⟩ → l.drop n ≠ [] → g < rb) :
    RdAt ((w.setCell ⟨rb, 0, none⟩ (.slice a' (l.length - n) cap')).setCell ⟨rb, 1, none⟩ (.int .i64 ((rd : Int) + (n : Int)))) rb (l.drop n) a' cap' (rd + n) ∧ Wrote [rb] w ((w.setCell ⟨rb, 0, none⟩ (.slice a' (l.length - n) cap')).setCell ⟨rb, 1, none⟩ (.int .i64 ((rd : Int) + (n : Int)))) := by
  have hw : Wrote [rb] w ((w.setCell ⟨rb, 0, none⟩ (.slice a' (l.length - n) cap')).setCell ⟨rb, 1, none⟩ (.int .i64 ((rd : Int) + (n : Int)))) := ((Wrote.refl _ _).setCell (.inl (by simp)) _).setCell (.inl (by simp)) _
  have h1 := heap_setCell_same _ rb 0 _ _ (.slice a' (l.length - n) cap') h.blk
  have h2 := heap_setCell_same _ rb 1 _ _ (.int .i64 ((rd : Int) + (n : Int))) h1
  refine ⟨⟨?_, hl.wrote hw fun g o e hz => by have := hne g o e hz; simp; omega, ?_, hne, ?_⟩, hw⟩
  · rw [h2, List.length_drop]
    simp
  · rw [List.length_drop]; exact hr
  · rw [List.length_drop]; have := h.small; omega
/-- what was cut off -/
def CutOk (w : World) (rb n : Nat) (l : List UInt8) (e : Ending) (w' : World) : Prop :=
  ∃ a c, e = .returned (.tuple #[.slice a n c, .int .i64 0]) ∧ LiesAt w' a 1 uvL (l.take n) ∧ (∃ a' cap' rd', RdAt w' rb (l.drop n) a' cap' rd') ∧ Wrote [rb] w w' ∧ n ≤ c ∧ c ≤ 9223372036854775807
set_option maxRecDepth 100000 in
set_option maxHeartbeats 1600000 in
theorem cut_few (rb n : Nat) (l : List UInt8) (a : Option Addr) (cap rd : Nat) (w : World) (h : RdAt w rb l a cap rd) (hn : l.length < n) :
    Calls Tryz.prog 100 #[.pointer (some ⟨rb, 0, none⟩), .int .i64 (n : Int)] w fun e w' => e = .returned (.tuple #[.slice none 0 0, .int .i64 21]) ∧ w' = w := by
  have c0 := h.c0
  have hi : (l.length : Int) < (n : Int) := by omega
  generalize l.length = ln at *
  go_enter Tryz.func100, Tryz.ntmps100
  go_wp2_with fail
  go_ret2
  exact ⟨rfl, rfl⟩
set_option maxRecDepth 100000 in
set_option maxHeartbeats 1600000 in
theorem cut_ok (rb n : Nat) (l : List UInt8) (a : Option Addr) (cap rd : Nat) (w : World) (h : RdAt w rb l a cap rd) (hn : n ≤ l.length) :
    Calls Tryz.prog 100 #[.pointer (some ⟨rb, 0, none⟩), .int .i64 (n : Int)] w (CutOk w rb n l) := by
  have HR := Lib.hid h
  have c0 := h.c0
  have c1 := h.c1
  have f0 := h.fz 0
  have f1 := h.fz 1
  obtain ⟨ln, hln⟩ : ∃ ln, ln = l.length := ⟨_, rfl⟩
  have HLN := Lib.hid hln
  rw [← hln] at c0 hn
  have hsm := h.small
  have hrm := h.room
  rw [← hln] at hsm hrm
  have i1 : (0 : Int) ≤ (n : Int) := by omega
  have i2 : (n : Int) ≤ (ln : Int) := by omega
  have i3 : (n : Int) ≤ (cap : Int) := by omega
  have i4 : (ln : Int) ≤ (cap : Int) := by omega
  have i5 : ¬ (ln : Int) < (n : Int) := by omega
  have i6 : IntKind.i64.wrap ((rd : Int) + (n : Int)) = (rd : Int) + (n : Int) := IntWalk.i64_in _ (by omega)
  clear h hln hsm
  go_enter Tryz.func100, Tryz.ntmps100
  go_wp2_with fail
  · have hz : ln = n := by omega
    subst hz
    have hd : l.drop ln = [] := List.drop_of_length_le (by have := HLN.out; omega)
    obtain ⟨q1, q2⟩ := HR.out.cut (n := ln) (by have := HLN.out; omega) (a' := a) (cap' := 0) (by rw [hd]; exact LiesAt.nil _ _ _ _) (by have := HLN.out; omega) (fun g o _ hz => absurd hd hz)
    rw [← HLN.out] at q1 q2
    go_ret2
    refine ⟨a, ln, rfl, ?_, ⟨_, _, _, q1⟩, q2, Nat.le_refl _, by omega⟩
    exact (uv_first HR.out.lies ln).wrote q2 fun g o e hz => by
      have := HR.out.ne g o e (fun h0 => hz (by rw [h0]; simp))
      simp
      omega
  · obtain ⟨q1, q2⟩ := HR.out.cut (n := n) (by have := HLN.out; omega) (a' := Option.map (fun x => x.add n) a) (cap' := cap - n) (uv_part HR.out.lies n) (by have := HLN.out; omega) (fun g o e hz => by
      cases a with
      | none => cases e
      | some b =>
        obtain ⟨x, hx⟩ : ∃ x, l[0]? = some x := by
          cases l with
          | nil => simp at hz
          | cons x l => exact ⟨x, rfl⟩
        obtain ⟨g', o', hb, _⟩ := HR.out.lies 0 x hx
        cases hb
        rw [Option.map_some, Addr.add_lit] at e
        cases e
        exact HR.out.ne g o' rfl (fun h0 => hz (by rw [h0]; simp)))
    rw [← HLN.out] at q1 q2
    go_ret2
    refine ⟨a, n, rfl, ?_, ⟨_, _, _, q1⟩, q2, Nat.le_refl _, by omega⟩
    exact (uv_first HR.out.lies n).wrote q2 fun g o e hz => by
      have := HR.out.ne g o e (fun h0 => hz (by rw [h0]; simp))
      simp
      omega
theorem or_low (y : Int) (c : Nat) (hy : y % 256 = 0) (hc : c < 256) : bits BinOp.or IntKind.i64 y (c : Int) = IntKind.i64.wrap (y + (c : Int)) := by
  show IntKind.i64.wrap (((BitVec.ofInt 64 y ||| BitVec.ofInt 64 (c : Int)).toNat : Nat) : Int) = _
  have h1 : (BitVec.ofInt 64 y).toNat = (y % 18446744073709551616).toNat := by
    rw [BitVec.toNat_ofInt]
    rfl
  have h2 : (BitVec.ofInt 64 (c : Int)).toNat = c := by
    rw [BitVec.toNat_ofInt]
    show ((c : Int) % 18446744073709551616).toNat = c
    omega
  obtain ⟨q, hq⟩ : ∃ q : Nat, (y % 18446744073709551616).toNat = 2 ^ 8 * q := ⟨(y % 18446744073709551616).toNat / 256, by omega⟩
  rw [BitVec.toNat_or, h1, h2, hq, ← Nat.two_pow_add_eq_or_of_lt (by omega : c < 2 ^ 8), ← hq, IntKind.wrap_i64, IntKind.wrap_i64]
  omega
theorem num8_snoc (L : List UInt8) (x : UInt8) : bits BinOp.or IntKind.i64 (wrap64 (num8 L * 256)) (wrap64 (x.toNat : Int)) = num8 (L ++ [x]) := by
  have hx := x.toNat_lt
  have h1 : wrap64 (x.toNat : Int) = (x.toNat : Int) := by unfold wrap64; omega
  have h2 : num8 (L ++ [x]) = IntKind.i64.wrap ((beN L : Int) * 256 + (x.toNat : Int)) := by
    unfold num8
    rw [beN_snoc, Int.natCast_add, Int.natCast_mul]
    rfl
  rw [h1, h2, or_low _ _ ?_ hx]
  · unfold num8
    rw [IntKind.wrap_i64, IntKind.wrap_i64, IntKind.wrap_i64]
    unfold wrap64
    omega
  · unfold num8
    rw [IntKind.wrap_i64]
    unfold wrap64
    omega
theorem num8_small (L : List UInt8) (h : L.length ≤ 4) : num8 L = (beN L : Int) := by
  have h1 := beN_lt L
  have h2 : 256 ^ L.length ≤ 256 ^ 4 := Nat.pow_le_pow_right (by omega) h
  rw [show 256 ^ 4 = 4294967296 by decide] at h2
  unfold num8
  exact IntWalk.i64_in _ (by omega)
theorem take_snoc {l : List UInt8} {j : Nat} {x : UInt8} (h : l[j]? = some x) : l.take (j + 1) = l.take j ++ [x] := by
  rw [List.take_add_one, h]
  rfl
/-- what number reads -/
def NumLeft (w : World) (rb : Nat) (l : List UInt8) (e : Ending) (w' : World) : Prop :=
  (l.length < 8 ∧ e = .returned (.tuple #[.int .i64 0, .int .i64 21]) ∧ (∃ a cap rd, RdAt w' rb l a cap rd) ∧ Wrote [rb] w w') ∨
  (8 ≤ l.length ∧ e = .returned (.tuple #[.int .i64 (num8 (l.take 8)), .int .i64 0]) ∧ (∃ a cap rd, RdAt w' rb (l.drop 8) a cap rd) ∧ Wrote [rb] w w')
set_option maxRecDepth 100000 in
set_option maxHeartbeats 1600000 in
theorem number_any (rb : Nat) (l : List UInt8) (a : Option Addr) (cap rd : Nat) (w : World) (h : RdAt w rb l a cap rd) :
    Calls Tryz.prog 74 #[.pointer (some ⟨rb, 0, none⟩)] w (NumLeft w rb l) := by
  have HR := Lib.hid h
  by_cases hl : l.length < 8
  · have HC := Lib.hid (cut_few rb 8 l a cap rd w h hl)
    clear h
    go_enter Tryz.func74, Tryz.ntmps74
    go_wp2_with (go_at_call 100; refine HC.out.mono ?_; rintro e w' ⟨rfl, rfl⟩)
    go_loopw [6, 16] (fun u i W => u = .int .i64 0 ∧ i = .int .i64 0 ∧ W = w') (fun _ _ _ => 0)
    case atStart => exact ⟨rfl, rfl, rfl⟩
    case round =>
      obtain ⟨rfl, rfl, rfl⟩ := hrel
      go_wp2_with fail
      go_ret2
      exact .inl ⟨hl, rfl, ⟨a, cap, rd, HR.out⟩, Wrote.refl _ _⟩
  · have HC := Lib.hid (cut_ok rb 8 l a cap rd w h (by omega))
    have HL : Hid (8 ≤ l.length) := by show _ ≤ _; omega
    clear h
    go_enter Tryz.func74, Tryz.ntmps74
    go_wp2_with (go_at_call 100; refine HC.out.mono ?_; rintro e w' ⟨a', c', rfl, hli, hrd, hw, hc1, hc2⟩)
    have HLI := Lib.hid hli
    have HRD := Lib.hid hrd
    have HWW := Lib.hid hw
    clear hli hrd hw
    have hc3 : (8 : Int) ≤ (c' : Int) := by omega
    go_wp2_with fail
    go_loopw [6, 8, 16] (fun u v i W => ∃ j : Nat, j ≤ 8 ∧ i = .int .i64 j ∧ u = .int .i64 (num8 (l.take j)) ∧ W = w') (fun _ _ i _ => 8 - (intOf i).toNat)
    case atStart => exact ⟨0, by omega, rfl, rfl, rfl⟩
    case round =>
      obtain ⟨j, hj, rfl, rfl, rfl⟩ := hrel
      by_cases hlt : j < 8
      · obtain ⟨x, hx⟩ : ∃ x, l[j]? = some x := ⟨_, List.getElem?_eq_getElem (by have := HL.out; omega)⟩
        obtain ⟨g, o, rfl, hg, hc⟩ := HLI.out j x (by rw [List.getElem?_take, if_pos hlt]; exact hx)
        have k0 : wr.cell? ⟨g, o + j, none⟩ = some (.int .u8 (x.toNat : Int)) := by have := hc 0 _ rfl; rw [Nat.mul_one, Nat.add_zero] at this; exact this
        have hj0 : (0 : Int) ≤ (j : Int) := by omega
        have hj1 : (j : Int) < 8 := by omega
        have HT : Hid (num8 (l.take (j + 1)) = bits BinOp.or IntKind.i64 (wrap64 (num8 (l.take j) * 256)) (wrap64 (x.toNat : Int))) := by
          show _ = _
          rw [take_snoc hx, num8_snoc]
        clear hc hg hx
        go_wp2_with fail
        exact ⟨⟨j + 1, by omega, by simp, by rw [HT.out], trivial⟩, by simp [intOf]; omega⟩
      · obtain rfl : j = 8 := by omega
        go_wp2_with fail
        go_ret2
        exact .inr ⟨HL.out, rfl, HRD.out, HWW.out⟩
end Go.Proofs.YtaifmfnmgnmgbaaGreatDoor.Txn
