/- Txn: reading bytes. and more. -/
import Derived.Test.YtaifmfnmgnmgbaaGreatDoorEnc
import Derived.Test.YtaifmfnmgnmgbaaGreatDoorMkWire
import Derived.Test.YtaifmfnmgnmgbaaGreatDoorBase
import Derived.Laws.Rows
import Derived.Deep.DeepCutAuto
import Derived.Deep.CutBlock
/- Txn: reading bytes. -/
namespace Go.Proofs.YtaifmfnmgnmgbaaGreatDoor.Txn
open Go.RowKit Go.My
open Go.Proofs.YtaifmfnmgnmgbaaGreatDoor.Merkle (uv)

def uvL (c : UInt8) : List Value := [uv c]
/-- a reader, with what is left -/
structure RdAt (w : World) (rb : Nat) (l : List UInt8) (a : Option Addr) (cap : Nat) (rd : Nat) : Prop where
  blk : w.heap[rb]? = some (.cells #[.slice a l.length cap, .int .i64 (rd : Int), .nilIface] 128 (0, 0))
  lies : LiesAt w a 1 uvL l
  room : l.length ≤ cap ∧ cap ≤ 9223372036854775807
  ne : ∀ g o, a = some ⟨g, o, none⟩ → l ≠ [] → g < rb
  small : rd + l.length ≤ 100000
/-- a reader that went wrong -/
def BadAt (w : World) (rb : Nat) : Prop := ∃ v z T ev, w.heap[rb]? = some (.cells #[v, .int .i64 z, .iface T ev] 128 (0, 0))
def StAt (w : World) (rb : Nat) : St → Prop
  | some l => ∃ a cap rd, RdAt w rb l a cap rd
  | none => BadAt w rb
section
variable {w w' : World} {rb cap rd : Nat} {l : List UInt8} {a : Option Addr}
theorem RdAt.c0 (h : RdAt w rb l a cap rd) : w.cell? ⟨rb, 0, none⟩ = some (.slice a l.length cap) := by rw [cell_of_row _ _ _ _ _ _ h.blk]; rfl
theorem RdAt.c1 (h : RdAt w rb l a cap rd) : w.cell? ⟨rb, 1, none⟩ = some (.int .i64 (rd : Int)) := by rw [cell_of_row _ _ _ _ _ _ h.blk]; rfl
theorem RdAt.c2 (h : RdAt w rb l a cap rd) : w.cell? ⟨rb, 2, none⟩ = some .nilIface := by rw [cell_of_row _ _ _ _ _ _ h.blk]; rfl
theorem RdAt.fz (h : RdAt w rb l a cap rd) (k : Nat) : w.frozen? ⟨rb, k, none⟩ = false := by unfold World.frozen?; rw [h.blk]; simp
theorem RdAt.lt (h : RdAt w rb l a cap rd) : rb < w.heap.size := lt_of_heap h.blk
theorem RdAt.below (h : RdAt w rb l a cap rd) (hb : Below w.heap.size w w') : RdAt w' rb l a cap rd :=
  ⟨(hb.block _ h.lt).trans h.blk, h.lies.below hb, h.room, h.ne, h.small⟩
theorem BadAt.lt (h : BadAt w rb) : rb < w.heap.size := by obtain ⟨v, z, T, ev, h⟩ := h; exact lt_of_heap h
theorem BadAt.below (h : BadAt w rb) (hb : Below w.heap.size w w') : BadAt w' rb := by
  have hl := h.lt
  obtain ⟨v, z, T, ev, h⟩ := h
  exact ⟨v, z, T, ev, (hb.block _ hl).trans h⟩
theorem StAt.below {s : St} (h : StAt w rb s) (hb : Below w.heap.size w w') : StAt w' rb s := by
  cases s with
  | none => exact BadAt.below h hb
  | some l =>
    obtain ⟨a, cap, rd, h⟩ := h
    exact ⟨a, cap, rd, h.below hb⟩
theorem StAt.lt {s : St} (h : StAt w rb s) : rb < w.heap.size := by
  cases s with
  | none => exact BadAt.lt h
  | some l =>
    obtain ⟨a, cap, rd, h⟩ := h
    exact h.lt
end
theorem uv_part {w : World} {a : Option Addr} {l : List UInt8} (h : LiesAt w a 1 uvL l) (n : Nat) : LiesAt w (Option.map (fun x => x.add n) a) 1 uvL (l.drop n) := by
  intro i x hi
  rw [List.getElem?_drop] at hi
  obtain ⟨g, o, rfl, hg, hc⟩ := h (n + i) x hi
  refine ⟨g, o + n, by rw [Option.map_some, Addr.add_lit], hg, fun j v hj => ?_⟩
  rw [show o + n + i * 1 + j = o + (n + i) * 1 + j by omega]
  exact hc j v hj
theorem uv_first {w : World} {a : Option Addr} {l : List UInt8} (h : LiesAt w a 1 uvL l) (n : Nat) : LiesAt w a 1 uvL (l.take n) := by
  intro i x hi
  rw [List.getElem?_take] at hi
  split at hi
  · exact h i x hi
  · cases hi
theorem RdAt.cut {w : World} {rb n cap rd : Nat} {l : List UInt8} {a : Option Addr} (h : RdAt w rb l a cap rd) (hn : n ≤ l.length) {a' : Option Addr} {cap' : Nat} (hl : LiesAt w a' 1 uvL (l.drop n)) (hr : l.length - n ≤ cap' ∧ cap' ≤ 9223372036854775807) (hne : ∀ g o, a' = some ⟨g, o, none⟩ → l.drop n ≠ [] → g < rb) :
    RdAt ((w.setCell ⟨rb, 0, none⟩ (.slice a' (l.length - n) cap')).setCell ⟨rb, 1, none⟩ (.int .i64 ((rd : Int) + (n : Int)))) rb (l.drop n) a' cap' (rd + n) ∧ Wrote [rb] w ((w.setCell ⟨rb, 0, none⟩ (.slice a' (l.length - n) cap')).setCell ⟨rb, 1, none⟩ (.int .i64 ((rd : Int) + (n : Int)))) := by
  have hw : Wrote [rb] w ((w.setCell ⟨rb, 0, none⟩ (.slice a' (l.length - n) cap')).setCell ⟨rb, 1, none⟩ (.int .i64 ((rd : Int) + (n : Int)))) := ((Wrote.refl _ _).setCell (.inl (by simp)) _).setCell (.inl (by simp)) _
  have h1 := heap_setCell_same _ rb 0 _ _ (.slice a' (l.length - n) cap') h.blk
  have h2 := heap_setCell_same _ rb 1 _ _ (.int .i64 ((rd : Int) + (n : Int))) h1
  refine ⟨⟨?_, hl.wrote hw fun g o e hz => by have := hne g o e hz; simp; omega, ?_, hne, ?_⟩, hw⟩
  · rw [h2, List.length_drop]
    simp
  · rw [List.length_drop]; exact hr
  · rw [List.length_drop]; have := h.small; omega
/-- what was cut off -/
def CutOk (w : World) (rb n : Nat) (l : List UInt8) (e : Ending) (w' : World) : Prop :=
  ∃ a c, e = .returned (.tuple #[.slice a n c, .int .i64 0]) ∧ LiesAt w' a 1 uvL (l.take n) ∧ (∃ a' cap' rd', RdAt w' rb (l.drop n) a' cap' rd') ∧ Wrote [rb] w w' ∧ n ≤ c ∧ c ≤ 9223372036854775807
set_option maxRecDepth 100000 in
set_option maxHeartbeats 1600000 in
theorem cut_few (rb n : Nat) (l : List UInt8) (a : Option Addr) (cap rd : Nat) (w : World) (h : RdAt w rb l a cap rd) (hn : l.length < n) :
    Calls Tryz.prog 100 #[.pointer (some ⟨rb, 0, none⟩), .int .i64 (n : Int)] w fun e w' => e = .returned (.tuple #[.slice none 0 0, .int .i64 21]) ∧ w' = w := by
  have c0 := h.c0
  have hi : (l.length : Int) < (n : Int) := by omega
  generalize l.length = ln at *
  go_enter Tryz.func100, Tryz.ntmps100
  go_wp2_with fail
  go_ret2
  exact ⟨rfl, rfl⟩
set_option maxRecDepth 100000 in
set_option maxHeartbeats 1600000 in
theorem cut_ok (rb n : Nat) (l : List UInt8) (a : Option Addr) (cap rd : Nat) (w : World) (h : RdAt w rb l a cap rd) (hn : n ≤ l.length) :
    Calls Tryz.prog 100 #[.pointer (some ⟨rb, 0, none⟩), .int .i64 (n : Int)] w (CutOk w rb n l) := by
  have HR := Lib.hid h
  have c0 := h.c0
  have c1 := h.c1
  have f0 := h.fz 0
  have f1 := h.fz 1
  obtain ⟨ln, hln⟩ : ∃ ln, ln = l.length := ⟨_, rfl⟩
  have HLN := Lib.hid hln
  rw [← hln] at c0 hn
  have hsm := h.small
  have hrm := h.room
  rw [← hln] at hsm hrm
  have i1 : (0 : Int) ≤ (n : Int) := by omega
  have i2 : (n : Int) ≤ (ln : Int) := by omega
  have i3 : (n : Int) ≤ (cap : Int) := by omega
  have i4 : (ln : Int) ≤ (cap : Int) := by omega
  have i5 : ¬ (ln : Int) < (n : Int) := by omega
  have i6 : IntKind.i64.wrap ((rd : Int) + (n : Int)) = (rd : Int) + (n : Int) := IntWalk.i64_in _ (by omega)
  clear h hln hsm
  go_enter Tryz.func100, Tryz.ntmps100
  go_wp2_with fail
  · have hz : ln = n := by omega
    subst hz
    have hd : l.drop ln = [] := List.drop_of_length_le (by have := HLN.out; omega)
    obtain ⟨q1, q2⟩ := HR.out.cut (n := ln) (by have := HLN.out; omega) (a' := a) (cap' := 0) (by rw [hd]; exact LiesAt.nil _ _ _ _) (by have := HLN.out; omega) (fun g o _ hz => absurd hd hz)
    rw [← HLN.out] at q1 q2
    go_ret2
    refine ⟨a, ln, rfl, ?_, ⟨_, _, _, q1⟩, q2, Nat.le_refl _, by omega⟩
    exact (uv_first HR.out.lies ln).wrote q2 fun g o e hz => by
      have := HR.out.ne g o e (fun h0 => hz (by rw [h0]; simp))
      simp
      omega
  · obtain ⟨q1, q2⟩ := HR.out.cut (n := n) (by have := HLN.out; omega) (a' := Option.map (fun x => x.add n) a) (cap' := cap - n) (uv_part HR.out.lies n) (by have := HLN.out; omega) (fun g o e hz => by
      cases a with
      | none => cases e
      | some b =>
        obtain ⟨x, hx⟩ : ∃ x, l[0]? = some x := by
          cases l with
          | nil => simp at hz
          | cons x l => exact ⟨x, rfl⟩
        obtain ⟨g', o', hb, _⟩ := HR.out.lies 0 x hx
        cases hb
        rw [Option.map_some, Addr.add_lit] at e
        cases e
        exact HR.out.ne g o' rfl (fun h0 => hz (by rw [h0]; simp)))
    rw [← HLN.out] at q1 q2
    go_ret2
    refine ⟨a, n, rfl, ?_, ⟨_, _, _, q1⟩, q2, Nat.le_refl _, by omega⟩
    exact (uv_first HR.out.lies n).wrote q2 fun g o e hz => by
      have := HR.out.ne g o e (fun h0 => hz (by rw [h0]; simp))
      simp
      omega
theorem or_low (y : Int) (c : Nat) (hy : y % 256 = 0) (hc : c < 256) : bits BinOp.or IntKind.i64 y (c : Int) = IntKind.i64.wrap (y + (c : Int)) := by
  show IntKind.i64.wrap (((BitVec.ofInt 64 y ||| BitVec.ofInt 64 (c : Int)).toNat : Nat) : Int) = _
  have h1 : (BitVec.ofInt 64 y).toNat = (y % 18446744073709551616).toNat := by
    rw [BitVec.toNat_ofInt]
    rfl
  have h2 : (BitVec.ofInt 64 (c : Int)).toNat = c := by
    rw [BitVec.toNat_ofInt]
    show ((c : Int) % 18446744073709551616).toNat = c
    omega
  obtain ⟨q, hq⟩ : ∃ q : Nat, (y % 18446744073709551616).toNat = 2 ^ 8 * q := ⟨(y % 18446744073709551616).toNat / 256, by omega⟩
  rw [BitVec.toNat_or, h1, h2, hq, ← Nat.two_pow_add_eq_or_of_lt (by omega : c < 2 ^ 8), ← hq, IntKind.wrap_i64, IntKind.wrap_i64]
  omega
theorem num8_snoc (L : List UInt8) (x : UInt8) : bits BinOp.or IntKind.i64 (wrap64 (num8 L * 256)) (wrap64 (x.toNat : Int)) = num8 (L ++ [x]) := by
  have hx := x.toNat_lt
  have h1 : wrap64 (x.toNat : Int) = (x.toNat : Int) := by unfold wrap64; omega
  have h2 : num8 (L ++ [x]) = IntKind.i64.wrap ((beN L : Int) * 256 + (x.toNat : Int)) := by
    unfold num8
    rw [beN_snoc, Int.natCast_add, Int.natCast_mul]
    rfl
  rw [h1, h2, or_low _ _ ?_ hx]
  · unfold num8
    rw [IntKind.wrap_i64, IntKind.wrap_i64, IntKind.wrap_i64]
    unfold wrap64
    omega
  · unfold num8
    rw [IntKind.wrap_i64]
    unfold wrap64
    omega
theorem num8_small (L : List UInt8) (h : L.length ≤ 4) : num8 L = (beN L : Int) := by
  have h1 := beN_lt L
  have h2 : 256 ^ L.length ≤ 256 ^ 4 := Nat.pow_le_pow_right (by omega) h
  rw [show 256 ^ 4 = 4294967296 by decide] at h2
  unfold num8
  exact IntWalk.i64_in _ (by omega)
theorem take_snoc {l : List UInt8} {j : Nat} {x : UInt8} (h : l[j]? = some x) : l.take (j + 1) = l.take j ++ [x] := by
  rw [List.take_add_one, h]
  rfl
/-- what number reads -/
def NumLeft (w : World) (rb : Nat) (l : List UInt8) (e : Ending) (w' : World) : Prop :=
  (l.length < 8 ∧ e = .returned (.tuple #[.int .i64 0, .int .i64 21]) ∧ (∃ a cap rd, RdAt w' rb l a cap rd) ∧ Wrote [rb] w w') ∨
  (8 ≤ l.length ∧ e = .returned (.tuple #[.int .i64 (num8 (l.take 8)), .int .i64 0]) ∧ (∃ a cap rd, RdAt w' rb (l.drop 8) a cap rd) ∧ Wrote [rb] w w')
set_option maxRecDepth 100000 in
set_option maxHeartbeats 1600000 in
theorem number_any (rb : Nat) (l : List UInt8) (a : Option Addr) (cap rd : Nat) (w : World) (h : RdAt w rb l a cap rd) :
    Calls Tryz.prog 74 #[.pointer (some ⟨rb, 0, none⟩)] w (NumLeft w rb l) := by
  have HR := Lib.hid h
  by_cases hl : l.length < 8
  · have HC := Lib.hid (cut_few rb 8 l a cap rd w h hl)
    clear h
    go_enter Tryz.func74, Tryz.ntmps74
    go_wp2_with (go_at_call 100; refine HC.out.mono ?_; rintro e w' ⟨rfl, rfl⟩)
    go_loopw [6, 16] (fun u i W => u = .int .i64 0 ∧ i = .int .i64 0 ∧ W = w') (fun _ _ _ => 0)
    case atStart => exact ⟨rfl, rfl, rfl⟩
    case round =>
      obtain ⟨rfl, rfl, rfl⟩ := hrel
      go_wp2_with fail
      go_ret2
      exact .inl ⟨hl, rfl, ⟨a, cap, rd, HR.out⟩, Wrote.refl _ _⟩
  · have HC := Lib.hid (cut_ok rb 8 l a cap rd w h (by omega))
    have HL : Hid (8 ≤ l.length) := by show _ ≤ _; omega
    clear h
    go_enter Tryz.func74, Tryz.ntmps74
    go_wp2_with (go_at_call 100; refine HC.out.mono ?_; rintro e w' ⟨a', c', rfl, hli, hrd, hw, hc1, hc2⟩)
    have HLI := Lib.hid hli
    have HRD := Lib.hid hrd
    have HWW := Lib.hid hw
    clear hli hrd hw
    have hc3 : (8 : Int) ≤ (c' : Int) := by omega
    go_wp2_with fail
    go_loopw [6, 8, 16] (fun u v i W => ∃ j : Nat, j ≤ 8 ∧ i = .int .i64 j ∧ u = .int .i64 (num8 (l.take j)) ∧ W = w') (fun _ _ i _ => 8 - (intOf i).toNat)
    case atStart => exact ⟨0, by omega, rfl, rfl, rfl⟩
    case round =>
      obtain ⟨j, hj, rfl, rfl, rfl⟩ := hrel
      by_cases hlt : j < 8
      · obtain ⟨x, hx⟩ : ∃ x, l[j]? = some x := ⟨_, List.getElem?_eq_getElem (by have := HL.out; omega)⟩
        obtain ⟨g, o, rfl, hg, hc⟩ := HLI.out j x (by rw [List.getElem?_take, if_pos hlt]; exact hx)
        have k0 : wr.cell? ⟨g, o + j, none⟩ = some (.int .u8 (x.toNat : Int)) := by have := hc 0 _ rfl; rw [Nat.mul_one, Nat.add_zero] at this; exact this
        have hj0 : (0 : Int) ≤ (j : Int) := by omega
        have hj1 : (j : Int) < 8 := by omega
        have HT : Hid (num8 (l.take (j + 1)) = bits BinOp.or IntKind.i64 (wrap64 (num8 (l.take j) * 256)) (wrap64 (x.toNat : Int))) := by
          show _ = _
          rw [take_snoc hx, num8_snoc]
        clear hc hg hx
        go_wp2_with fail
        exact ⟨⟨j + 1, by omega, by simp, by rw [HT.out], trivial⟩, by simp [intOf]; omega⟩
      · obtain rfl : j = 8 := by omega
        go_wp2_with fail
        go_ret2
        exact .inr ⟨HL.out, rfl, HRD.out, HWW.out⟩
end Go.Proofs.YtaifmfnmgnmgbaaGreatDoor.Txn
/- Txn: reading numbers and texts. -/
namespace Go.Proofs.YtaifmfnmgnmgbaaGreatDoor.Txn
open Go.RowKit Go.My
open Go.Proofs.YtaifmfnmgnmgbaaGreatDoor.Merkle (uv ofL)

set_option maxRecDepth 100000 in
theorem of_e (e : Int) (w : World) (he : (e == 0) = false) : Calls Tryz.prog 32 #[.int .i64 e] w fun r w' => r = .returned (.iface 70 (.int .i64 e)) ∧ w' = w := by
  have h0 : ¬ e = 0 := by simpa using he
  go_enter Tryz.func32, Tryz.ntmps32
  go_wp2
  go_ret
  exact ⟨rfl, rfl⟩
set_option maxRecDepth 100000 in
theorem wrap_e (z : Value) (s : ByteArray) (n : Int) (w : World) : Calls Tryz.prog 68 #[.iface 70 z, .string s, .int .i64 n] w fun r w' => r = .returned (.iface 163 (.agg #[.string s, .int .i64 n, .iface 70 z])) ∧ w' = w := by
  go_enter Tryz.func68, Tryz.ntmps68
  go_wp2
  go_ret
  exact ⟨rfl, rfl⟩
/-- some reader -/
def Rd0 (w : World) (rb : Nat) (l : List UInt8) : Prop := ∃ a cap rd, RdAt w rb l a cap rd
/-- what a read leaves -/
def ReadLeft (w : World) (rb : Nat) (no : Prop) (V : Value → World → List UInt8 → Prop) (e : Ending) (w' : World) : Prop :=
  (∃ v z l', (z == 0) = false ∧ e = .returned (.tuple #[v, .int .i64 z]) ∧ Rd0 w' rb l' ∧ Wrote [rb] w w' ∧ no) ∨
  (∃ v l', e = .returned (.tuple #[v, .int .i64 0]) ∧ V v w' l' ∧ Rd0 w' rb l' ∧ Wrote [rb] w w')
/-- what count reads -/
def CountLeft (w : World) (rb most : Nat) (l : List UInt8) (e : Ending) (w' : World) : Prop :=
  Wrote [rb] w w' ∧ ((l.length < 4 ∧ e = .returned (.tuple #[.int .i64 0, .int .i64 21]) ∧ Rd0 w' rb l) ∨
  (4 ≤ l.length ∧ e = .returned (.tuple #[.int .i64 (beN (l.take 4) : Int), .int .i64 (if most < beN (l.take 4) then 2 else 0)]) ∧ Rd0 w' rb (l.drop 4)))
set_option maxRecDepth 100000 in
set_option maxHeartbeats 1600000 in
theorem count_any (rb most : Nat) (l : List UInt8) (a : Option Addr) (cap rd : Nat) (w : World) (h : RdAt w rb l a cap rd) :
    Calls Tryz.prog 103 #[.pointer (some ⟨rb, 0, none⟩), .int .i64 (most : Int)] w (CountLeft w rb most l) := by
  have HR := Lib.hid h
  by_cases hl : l.length < 4
  · have HC := Lib.hid (cut_few rb 4 l a cap rd w h hl)
    clear h
    go_enter Tryz.func103, Tryz.ntmps103
    go_wp2_with (go_at_call 100; refine HC.out.mono ?_; rintro e w' ⟨rfl, rfl⟩)
    go_loopw [8, 18] (fun u i W => u = .int .i64 0 ∧ i = .int .i64 0 ∧ W = w') (fun _ _ _ => 0)
    case atStart => exact ⟨rfl, rfl, rfl⟩
    case round =>
      obtain ⟨rfl, rfl, rfl⟩ := hrel
      go_wp2_with fail
      go_ret2
      exact ⟨Wrote.refl _ _, .inl ⟨hl, rfl, a, cap, rd, HR.out⟩⟩
  · have HC := Lib.hid (cut_ok rb 4 l a cap rd w h (by omega))
    have HL : Hid (4 ≤ l.length) := by show _ ≤ _; omega
    have HN4 : Hid (num8 (l.take 4) = (beN (l.take 4) : Int)) := num8_small _ (by rw [List.length_take]; omega)
    clear h
    go_enter Tryz.func103, Tryz.ntmps103
    go_wp2_with (go_at_call 100; refine HC.out.mono ?_; rintro e w' ⟨a', c', rfl, hli, hrd, hw, hc1, hc2⟩)
    have HLI := Lib.hid hli
    have HRD := Lib.hid hrd
    have HWW := Lib.hid hw
    clear hli hrd hw
    have hc3 : (4 : Int) ≤ (c' : Int) := by omega
    go_wp2_with fail
    go_loopw [8, 10, 18] (fun u v i W => ∃ j : Nat, j ≤ 4 ∧ i = .int .i64 j ∧ u = .int .i64 (num8 (l.take j)) ∧ W = w') (fun _ _ i _ => 4 - (intOf i).toNat)
    case atStart => exact ⟨0, by omega, rfl, rfl, rfl⟩
    case round =>
      obtain ⟨j, hj, rfl, rfl, rfl⟩ := hrel
      by_cases hlt : j < 4
      · obtain ⟨x, hx⟩ : ∃ x, l[j]? = some x := ⟨_, List.getElem?_eq_getElem (by have := HL.out; omega)⟩
        obtain ⟨g, o, rfl, hg, hc⟩ := HLI.out j x (by rw [List.getElem?_take, if_pos hlt]; exact hx)
        have k0 : wr.cell? ⟨g, o + j, none⟩ = some (.int .u8 (x.toNat : Int)) := by have := hc 0 _ rfl; rw [Nat.mul_one, Nat.add_zero] at this; exact this
        have hj0 : (0 : Int) ≤ (j : Int) := by omega
        have hj1 : (j : Int) < 4 := by omega
        have HT : Hid (num8 (l.take (j + 1)) = bits BinOp.or IntKind.i64 (wrap64 (num8 (l.take j) * 256)) (wrap64 (x.toNat : Int))) := by
          show _ = _
          rw [take_snoc hx, num8_snoc]
        clear hc hg hx
        go_wp2_with fail
        exact ⟨⟨j + 1, by omega, by simp, by rw [HT.out], trivial⟩, by simp [intOf]; omega⟩
      · obtain rfl : j = 4 := by omega
        rw [HN4.out]
        obtain ⟨n, hn⟩ : ∃ n, n = beN (l.take 4) := ⟨_, rfl⟩
        have HNN := Lib.hid hn
        rw [← hn]
        clear hn
        by_cases hm : most < n
        · have hm2 : (most : Int) < (n : Int) := by omega
          go_wp2_with fail
          go_ret2
          exact ⟨HWW.out, .inr ⟨HL.out, by rw [← HNN.out, if_pos hm]; rfl, HRD.out⟩⟩
        · have hm2 : ¬ (most : Int) < (n : Int) := by omega
          go_wp2_with fail
          go_ret2
          exact ⟨HWW.out, .inr ⟨HL.out, by rw [← HNN.out, if_neg hm]; rfl, HRD.out⟩⟩
/-- a text's bytes, as they were read -/
def TextV (l : List UInt8) (v : Value) (W : World) (r : List UInt8) : Prop :=
  ∃ k, stText (some l) = (k, some r) ∧ ∃ a c, v = .slice a k.size c ∧ LiesAt W a 1 uvL k.data.toList ∧ k.size ≤ c ∧ c ≤ 9223372036854775807
set_option maxRecDepth 100000 in
set_option maxHeartbeats 1600000 in
theorem text_read (rb : Nat) (l : List UInt8) (a : Option Addr) (cap rd : Nat) (w : World) (h : RdAt w rb l a cap rd) :
    Calls Tryz.prog 77 #[.pointer (some ⟨rb, 0, none⟩)] w (ReadLeft w rb (stText (some l) = (⟨#[]⟩, none)) (TextV l)) := by
  have HR := Lib.hid h
  have HCN := Lib.hid (count_any rb 65536 l a cap rd w h)
  clear h
  go_enter Tryz.func77, Tryz.ntmps77
  go_wp2_with fail
  refine HCN.out.mono ?_
  rintro e w1 ⟨hw1, ⟨hl, rfl, hrd⟩ | ⟨hl, rfl, hrd⟩⟩
  · go_wp2_with fail
    go_ret2
    refine .inl ⟨_, 21, l, rfl, rfl, hrd, hw1, ?_⟩
    rw [stText_some, if_pos (.inl hl)]
  · have HRD := Lib.hid hrd
    have HW1 := Lib.hid hw1
    have HL := Lib.hid hl
    clear hrd hw1 hl
    obtain ⟨n, hn⟩ : ∃ n, n = beN (l.take 4) := ⟨_, rfl⟩
    have HNN := Lib.hid hn
    rw [← hn]
    clear hn
    by_cases hm : 65536 < n
    · rw [if_pos hm]
      go_wp2_with fail
      go_ret2
      refine .inl ⟨_, 2, _, rfl, rfl, HRD.out, HW1.out, ?_⟩
      rw [stText_some, if_pos (.inr (.inl (by rw [← HNN.out]; exact hm)))]
    · rw [if_neg hm]
      have HM := Lib.hid hm
      clear hm
      obtain ⟨a2, cap2, rd2, h2⟩ := HRD.out
      by_cases hc : (l.drop 4).length < n
      · have HC := Lib.hid (cut_few rb n _ a2 cap2 rd2 w1 h2 hc)
        have HH2 := Lib.hid h2
        clear h2
        go_wp2_with (go_at_call 100; refine HC.out.mono ?_; rintro e w' ⟨rfl, rfl⟩)
        go_ret2
        refine .inl ⟨_, 21, _, rfl, rfl, ⟨_, _, _, HH2.out⟩, HW1.out, ?_⟩
        rw [stText_some, if_pos (.inr (.inr (by rw [← HNN.out]; rw [List.length_drop] at hc; omega)))]
      · have HC := Lib.hid (cut_ok rb n _ a2 cap2 rd2 w1 h2 (by omega))
        clear h2
        go_wp2_with (go_at_call 100; refine HC.out.mono ?_; rintro e w' ⟨a', c', rfl, hli, hrd, hw, hc1, hc2⟩)
        go_ret2
        have hsz : (ofL ((l.drop 4).take n)).size = n := by rw [Merkle.ofL_size, List.length_take]; omega
        refine .inr ⟨_, (l.drop 4).drop n, rfl, ⟨ofL ((l.drop 4).take n), ?_, a', c', by rw [hsz]; rfl, ?_, by rw [hsz]; exact hc1, hc2⟩, hrd, HW1.out.trans hw⟩
        · have := HM.out
          have := HL.out
          rw [stText_some, ← HNN.out, if_neg (by rw [List.length_drop] at hc; omega)]
        · have : (ofL ((l.drop 4).take n)).data.toList = (l.drop 4).take n := by simp [Merkle.ofL]
          rw [this]
          exact hli
/-- a number from nothing to one -/
def IntV (most : Int) (l : List UInt8) (v : Value) (_ : World) (r : List UInt8) : Prop := ∃ z, v = .int .i64 z ∧ stInt most (some l) = (z, some r)
def Num8V (l : List UInt8) (v : Value) (_ : World) (r : List UInt8) : Prop := ∃ z, v = .int .i64 z ∧ stNum (some l) = (z, some r)
theorem number_read (rb : Nat) (l : List UInt8) (a : Option Addr) (cap rd : Nat) (w : World) (h : RdAt w rb l a cap rd) :
    Calls Tryz.prog 74 #[.pointer (some ⟨rb, 0, none⟩)] w (ReadLeft w rb (stNum (some l) = (0, none)) (Num8V l)) := by
  refine (number_any rb l a cap rd w h).mono ?_
  rintro e w' (⟨hl, rfl, hr, hw⟩ | ⟨hl, rfl, hr, hw⟩)
  · refine .inl ⟨_, 21, l, rfl, rfl, hr, hw, ?_⟩
    rw [stNum_some, if_pos hl]
  · exact .inr ⟨_, _, rfl, ⟨_, rfl, by rw [stNum_some, if_neg (by omega)]⟩, hr, hw⟩
set_option maxRecDepth 100000 in
set_option maxHeartbeats 1600000 in
theorem int_read (rb p q : Nat) (most : Int) (l : List UInt8) (a : Option Addr) (cap rd : Nat) (w : World) (h : RdAt w rb l a cap rd) (hp : w.cell? ⟨p, 0, none⟩ = some (.pointer (some ⟨rb, 0, none⟩))) (hq : w.cell? ⟨q, 0, none⟩ = some (.int .i64 most)) (hqr : q ≠ rb) :
    Calls Tryz.prog 102 #[.pointer (some ⟨p, 0, none⟩), .pointer (some ⟨q, 0, none⟩)] w (ReadLeft w rb (stInt most (some l) = (0, none)) (IntV most l)) := by
  have HN := Lib.hid (number_any rb l a cap rd w h)
  have HQ : Hid (∀ W, Wrote [rb] w W → W.cell? ⟨q, 0, none⟩ = some (.int .i64 most)) := fun W hW => (hW.cell (p := ⟨q, 0, none⟩) (World.block_lt_of_cell? w ⟨q, 0, none⟩ hq) (by simpa using hqr)).trans hq
  clear h hq
  go_enter Tryz.func102, Tryz.ntmps102
  go_wp2_with fail
  refine HN.out.mono ?_
  rintro e w1 (⟨hl, rfl, hr, hw⟩ | ⟨hl, rfl, hr, hw⟩)
  · go_wp2_with fail
    go_ret2
    refine .inl ⟨_, 21, l, rfl, rfl, hr, hw, ?_⟩
    rw [stInt_some, if_pos hl]
  · have q0 := HQ.out w1 hw
    have HR1 := Lib.hid hr
    have HW1 := Lib.hid hw
    have HL := Lib.hid hl
    clear hr hw hl
    have hz := num8_i64 (l.take 8)
    obtain ⟨z, hzz⟩ : ∃ z, z = num8 (l.take 8) := ⟨_, rfl⟩
    have HZ := Lib.hid hzz
    rw [← hzz] at hz ⊢
    clear hzz
    by_cases h0 : z < 0
    · go_wp2_with fail
      go_ret2
      refine .inl ⟨_, 23, _, rfl, rfl, HR1.out, HW1.out, ?_⟩
      rw [stInt_some, if_neg (by have := HL.out; omega), if_pos (.inl (by rw [← HZ.out]; exact h0))]
    · by_cases h1 : most < z
      · go_wp2_with fail
        go_ret2
        refine .inl ⟨_, 2, _, rfl, rfl, HR1.out, HW1.out, ?_⟩
        rw [stInt_some, if_neg (by have := HL.out; omega), if_pos (.inr (by rw [← HZ.out]; exact h1))]
      · go_wp2_with fail
        go_ret2
        exact .inr ⟨_, _, rfl, ⟨z, rfl, by rw [stInt_some, ← HZ.out, if_neg (by have := HL.out; omega), if_neg (by omega)]⟩, HR1.out, HW1.out⟩
/-- what next leaves: what was read, or nothing -/
def NextLeft (w : World) (rb : Nat) (zero : Value) (no : Prop) (V : Value → World → List UInt8 → Prop) (e : Ending) (w' : World) : Prop :=
  Wrote [rb] w w' ∧ ((∃ v l', e = .returned v ∧ V v w' l' ∧ Rd0 w' rb l') ∨ (e = .returned zero ∧ BadAt w' rb ∧ no))
set_option maxRecDepth 100000 in
set_option maxHeartbeats 1600000 in
theorem next_num_bad (rb : Nat) (s : ByteArray) (f : Value) (w : World) (h : BadAt w rb) :
    Calls Tryz.prog 73 #[.pointer (some ⟨rb, 0, none⟩), .string s, f] w fun e w' => e = .returned (.int .i64 0) ∧ w' = w := by
  obtain ⟨v, z, T, ev, hb⟩ := h
  have c2 : w.cell? ⟨rb, 2, none⟩ = some (.iface T ev) := by rw [cell_of_row _ _ _ _ _ _ hb]; rfl
  clear hb
  go_enter Tryz.func73, Tryz.ntmps73
  go_wp2_with fail
  go_ret
  exact ⟨rfl, rfl⟩
set_option maxRecDepth 100000 in
set_option maxHeartbeats 1600000 in
theorem next_num (rb : Nat) (s : ByteArray) (l : List UInt8) (a : Option Addr) (cap rd : Nat) (w : World) (V : Value → World → List UInt8 → Prop) (args lb : Array Value) (h : RdAt w rb l a cap rd)
    (no : Prop) (HF : Calls Tryz.prog 74 (args ++ lb) w (ReadLeft w rb no V)) :
    Calls Tryz.prog 73 #[.pointer (some ⟨rb, 0, none⟩), .string s, .func (.func 74) args lb] w (NextLeft w rb (.int .i64 0) no V) := by
  have HFF := Lib.hid HF
  have c0 := h.c0
  have c1 := h.c1
  have c2 := h.c2
  clear HF h
  go_enter Tryz.func73, Tryz.ntmps73
  go_wp2_with fail
  refine HFF.out.mono ?_
  rintro e w1 (⟨v, z, l', hz, rfl, ⟨a1, cap1, rd1, hr⟩, hw, hno⟩ | ⟨v, l', rfl, hV, hr, hw⟩)
  · have HR := Lib.hid hr
    have HW := Lib.hid hw
    have HNO := Lib.hid hno
    have HO := Lib.hid (of_e z w1 hz)
    have hz1 : (z != 0) = true := by simpa using hz
    have d0 := hr.c0
    have d1 := hr.c1
    have d2 := hr.c2
    have e2 := hr.fz 2
    clear hr hw hno c0 c1 c2
    go_wp2_with (first | (go_at_call 32; refine HO.out.mono ?_; rintro e w' ⟨rfl, rfl⟩) | (go_at_call 68; refine (wrap_e _ _ _ _).mono ?_; rintro e w' ⟨rfl, rfl⟩))
    go_ret
    exact ⟨HW.out.trans ((Wrote.refl _ _).setCell (.inl (by simp)) _), .inr ⟨rfl, ⟨_, _, _, _, by rw [heap_setCell_same _ _ _ _ _ _ HR.out.blk]; rfl⟩, HNO.out⟩⟩
  · have HV := Lib.hid hV
    have HR := Lib.hid hr
    have HW := Lib.hid hw
    clear hV hr hw c0 c1 c2
    go_wp2_with fail
    go_ret
    exact ⟨HW.out, .inl ⟨v, l', rfl, HV.out, HR.out⟩⟩
set_option maxRecDepth 100000 in
set_option maxHeartbeats 1600000 in
theorem next_int_bad (rb : Nat) (s : ByteArray) (f : Value) (w : World) (h : BadAt w rb) :
    Calls Tryz.prog 101 #[.pointer (some ⟨rb, 0, none⟩), .string s, f] w fun e w' => e = .returned (.int .i64 0) ∧ w' = w := by
  obtain ⟨v, z, T, ev, hb⟩ := h
  have c2 : w.cell? ⟨rb, 2, none⟩ = some (.iface T ev) := by rw [cell_of_row _ _ _ _ _ _ hb]; rfl
  clear hb
  go_enter Tryz.func101, Tryz.ntmps101
  go_wp2_with fail
  go_ret
  exact ⟨rfl, rfl⟩
set_option maxRecDepth 100000 in
set_option maxHeartbeats 1600000 in
theorem next_int (rb : Nat) (s : ByteArray) (l : List UInt8) (a : Option Addr) (cap rd : Nat) (w : World) (V : Value → World → List UInt8 → Prop) (args lb : Array Value) (h : RdAt w rb l a cap rd)
    (no : Prop) (HF : Calls Tryz.prog 102 (args ++ lb) w (ReadLeft w rb no V)) :
    Calls Tryz.prog 101 #[.pointer (some ⟨rb, 0, none⟩), .string s, .func (.func 102) args lb] w (NextLeft w rb (.int .i64 0) no V) := by
  have HFF := Lib.hid HF
  have c0 := h.c0
  have c1 := h.c1
  have c2 := h.c2
  clear HF h
  go_enter Tryz.func101, Tryz.ntmps101
  go_wp2_with fail
  refine HFF.out.mono ?_
  rintro e w1 (⟨v, z, l', hz, rfl, ⟨a1, cap1, rd1, hr⟩, hw, hno⟩ | ⟨v, l', rfl, hV, hr, hw⟩)
  · have HR := Lib.hid hr
    have HW := Lib.hid hw
    have HNO := Lib.hid hno
    have HO := Lib.hid (of_e z w1 hz)
    have hz1 : (z != 0) = true := by simpa using hz
    have d0 := hr.c0
    have d1 := hr.c1
    have d2 := hr.c2
    have e2 := hr.fz 2
    clear hr hw hno c0 c1 c2
    go_wp2_with (first | (go_at_call 32; refine HO.out.mono ?_; rintro e w' ⟨rfl, rfl⟩) | (go_at_call 68; refine (wrap_e _ _ _ _).mono ?_; rintro e w' ⟨rfl, rfl⟩))
    go_ret
    exact ⟨HW.out.trans ((Wrote.refl _ _).setCell (.inl (by simp)) _), .inr ⟨rfl, ⟨_, _, _, _, by rw [heap_setCell_same _ _ _ _ _ _ HR.out.blk]; rfl⟩, HNO.out⟩⟩
  · have HV := Lib.hid hV
    have HR := Lib.hid hr
    have HW := Lib.hid hw
    clear hV hr hw c0 c1 c2
    go_wp2_with fail
    go_ret
    exact ⟨HW.out, .inl ⟨v, l', rfl, HV.out, HR.out⟩⟩
set_option maxRecDepth 100000 in
set_option maxHeartbeats 1600000 in
theorem next_text_bad (rb : Nat) (s : ByteArray) (f : Value) (w : World) (h : BadAt w rb) :
    Calls Tryz.prog 76 #[.pointer (some ⟨rb, 0, none⟩), .string s, f] w fun e w' => e = .returned (.slice none 0 0) ∧ w' = w := by
  obtain ⟨v, z, T, ev, hb⟩ := h
  have c2 : w.cell? ⟨rb, 2, none⟩ = some (.iface T ev) := by rw [cell_of_row _ _ _ _ _ _ hb]; rfl
  clear hb
  go_enter Tryz.func76, Tryz.ntmps76
  go_wp2_with fail
  go_ret
  exact ⟨rfl, rfl⟩
set_option maxRecDepth 100000 in
set_option maxHeartbeats 1600000 in
theorem next_text (rb : Nat) (s : ByteArray) (l : List UInt8) (a : Option Addr) (cap rd : Nat) (w : World) (V : Value → World → List UInt8 → Prop) (args lb : Array Value) (h : RdAt w rb l a cap rd)
    (no : Prop) (HF : Calls Tryz.prog 77 (args ++ lb) w (ReadLeft w rb no V)) :
    Calls Tryz.prog 76 #[.pointer (some ⟨rb, 0, none⟩), .string s, .func (.func 77) args lb] w (NextLeft w rb (.slice none 0 0) no V) := by
  have HFF := Lib.hid HF
  have c0 := h.c0
  have c1 := h.c1
  have c2 := h.c2
  clear HF h
  go_enter Tryz.func76, Tryz.ntmps76
  go_wp2_with fail
  refine HFF.out.mono ?_
  rintro e w1 (⟨v, z, l', hz, rfl, ⟨a1, cap1, rd1, hr⟩, hw, hno⟩ | ⟨v, l', rfl, hV, hr, hw⟩)
  · have HR := Lib.hid hr
    have HW := Lib.hid hw
    have HNO := Lib.hid hno
    have HO := Lib.hid (of_e z w1 hz)
    have hz1 : (z != 0) = true := by simpa using hz
    have d0 := hr.c0
    have d1 := hr.c1
    have d2 := hr.c2
    have e2 := hr.fz 2
    clear hr hw hno c0 c1 c2
    go_wp2_with (first | (go_at_call 32; refine HO.out.mono ?_; rintro e w' ⟨rfl, rfl⟩) | (go_at_call 68; refine (wrap_e _ _ _ _).mono ?_; rintro e w' ⟨rfl, rfl⟩))
    go_ret
    exact ⟨HW.out.trans ((Wrote.refl _ _).setCell (.inl (by simp)) _), .inr ⟨rfl, ⟨_, _, _, _, by rw [heap_setCell_same _ _ _ _ _ _ HR.out.blk]; rfl⟩, HNO.out⟩⟩
  · have HV := Lib.hid hV
    have HR := Lib.hid hr
    have HW := Lib.hid hw
    clear hV hr hw c0 c1 c2
    go_wp2_with fail
    go_ret
    exact ⟨HW.out, .inl ⟨v, l', rfl, HV.out, HR.out⟩⟩
set_option maxRecDepth 100000 in
theorem num_any (rb : Nat) (s : St) (w : World) (h : StAt w rb s) :
    Calls Tryz.prog 34 #[.pointer (some ⟨rb, 0, none⟩)] w fun e w' => e = .returned (.int .i64 (stNum s).1) ∧ StAt w' rb (stNum s).2 ∧ Wrote [rb] w w' := by
  cases s with
  | none =>
    have HB := Lib.hid h
    have HN := Lib.hid (next_num_bad rb ⟨#[110, 117, 109]⟩ (.func (.func 74) #[.pointer (some ⟨rb, 0, none⟩)] #[]) w h)
    clear h
    go_enter Tryz.func34, Tryz.ntmps34
    go_wp2_with fail
    refine HN.out.mono ?_
    rintro e w' ⟨rfl, rfl⟩
    go_wp2_with fail
    go_ret
    exact ⟨rfl, HB.out, Wrote.refl _ _⟩
  | some l =>
    obtain ⟨a, cap, rd, h⟩ := h
    have HN := Lib.hid (next_num rb ⟨#[110, 117, 109]⟩ l a cap rd w (Num8V l) #[.pointer (some ⟨rb, 0, none⟩)] #[] h (stNum (some l) = (0, none)) (number_read rb l a cap rd w h))
    clear h
    go_enter Tryz.func34, Tryz.ntmps34
    go_wp2_with fail
    refine HN.out.mono ?_
    rintro e w' ⟨hw, ⟨v, l', rfl, ⟨z, rfl, hz⟩, hr⟩ | ⟨rfl, hb, hz⟩⟩
    · have HH := Lib.hid (And.intro hr hw)
      have HZ := Lib.hid hz
      clear hr hw hz
      go_wp2_with fail
      go_ret
      rw [HZ.out]
      exact ⟨rfl, HH.out.1, HH.out.2⟩
    · have HH := Lib.hid (And.intro hb hw)
      have HZ := Lib.hid hz
      clear hb hw hz
      go_wp2_with fail
      go_ret
      rw [HZ.out]
      exact ⟨rfl, HH.out.1, HH.out.2⟩
/-- what Text leaves -/
def TextLeft (w : World) (rb : Nat) (s : St) (e : Ending) (w' : World) : Prop :=
  ∃ a c, e = .returned (.slice a (stText s).1.size c) ∧ LiesAt w' a 1 uvL (stText s).1.data.toList ∧ StAt w' rb (stText s).2 ∧ Wrote [rb] w w'
set_option maxRecDepth 100000 in
theorem rtext_any (rb : Nat) (s : St) (w : World) (h : StAt w rb s) :
    Calls Tryz.prog 37 #[.pointer (some ⟨rb, 0, none⟩)] w (TextLeft w rb s) := by
  cases s with
  | none =>
    have HB := Lib.hid h
    have HN := Lib.hid (next_text_bad rb ⟨#[116, 101, 120, 116]⟩ (.func (.func 77) #[.pointer (some ⟨rb, 0, none⟩)] #[]) w h)
    clear h
    go_enter Tryz.func37, Tryz.ntmps37
    go_wp2_with fail
    refine HN.out.mono ?_
    rintro e w' ⟨rfl, rfl⟩
    go_wp2_with fail
    go_ret
    exact ⟨none, 0, rfl, LiesAt.nil _ _ _ _, HB.out, Wrote.refl _ _⟩
  | some l =>
    obtain ⟨a, cap, rd, h⟩ := h
    have HN := Lib.hid (next_text rb ⟨#[116, 101, 120, 116]⟩ l a cap rd w (TextV l) #[.pointer (some ⟨rb, 0, none⟩)] #[] h (stText (some l) = (⟨#[]⟩, none)) (text_read rb l a cap rd w h))
    clear h
    go_enter Tryz.func37, Tryz.ntmps37
    go_wp2_with fail
    refine HN.out.mono ?_
    rintro e w' ⟨hw, ⟨v, l', rfl, ⟨k, hk, a2, c2, rfl, hl, h1, h2⟩, hr⟩ | ⟨rfl, hb, hz⟩⟩
    · have HH := Lib.hid (And.intro hr (And.intro hw (And.intro hl hk)))
      clear hr hw hl hk
      go_wp2_with fail
      go_ret
      unfold TextLeft
      rw [HH.out.2.2.2]
      exact ⟨a2, c2, rfl, HH.out.2.2.1, HH.out.1, HH.out.2.1⟩
    · have HH := Lib.hid (And.intro hb (And.intro hw hz))
      clear hb hw hz
      go_wp2_with fail
      go_ret
      unfold TextLeft
      rw [HH.out.2.2]
      exact ⟨none, 0, rfl, LiesAt.nil _ _ _ _, HH.out.1, HH.out.2.1⟩
set_option maxRecDepth 100000 in
theorem int_any (rb : Nat) (most : Int) (s : St) (w : World) (h : StAt w rb s) :
    Calls Tryz.prog 75 #[.pointer (some ⟨rb, 0, none⟩), .int .i64 most] w fun e w' => e = .returned (.int .i64 (stInt most s).1) ∧ StAt w' rb (stInt most s).2 ∧ Wrote [rb] w w' := by
  obtain ⟨W, hW⟩ : ∃ W : World, W = (w.alloc (.cells #[.pointer (some ⟨rb, 0, none⟩)] 80)).alloc (.cells #[.int .i64 most] 3) := ⟨_, rfl⟩
  obtain ⟨p, hp⟩ : ∃ p, p = w.heap.size := ⟨_, rfl⟩
  have hb : Below w.heap.size w W := by rw [hW]; exact ((Below.refl _ _).alloc (Nat.le_refl _) _).alloc (by simp) _
  have hp1 : W.heap[p]? = some (.cells #[.pointer (some ⟨rb, 0, none⟩)] 80 (0, 0)) := by
    rw [hW, hp, heap_alloc_old _ _ (by simp)]
    exact heap_alloc_new w _
  have hp2 : W.heap[p + 1]? = some (.cells #[.int .i64 most] 3 (0, 0)) := by
    have := heap_alloc_new (w.alloc (.cells #[.pointer (some ⟨rb, 0, none⟩)] 80)) (.cells #[.int .i64 most] 3)
    rw [hW, hp]
    simpa using this
  have k0 : W.cell? ⟨p, 0, none⟩ = some (.pointer (some ⟨rb, 0, none⟩)) := by rw [cell_of_row _ _ _ _ _ _ hp1]; rfl
  have k1 : W.cell? ⟨p + 1, 0, none⟩ = some (.int .i64 most) := by rw [cell_of_row _ _ _ _ _ _ hp2]; rfl
  have hlt := h.lt
  have HW : Hid ((w.alloc (.cells #[.pointer (some ⟨rb, 0, none⟩)] 80)).alloc (.cells #[.int .i64 most] 3) = W ∧ w.heap.size = p) := ⟨hW.symm, hp.symm⟩
  have HB := Lib.hid hb
  have hne : p + 1 ≠ rb := by omega
  have HS := Lib.hid (h.below hb)
  clear hW hp hb hp1 hp2 hlt
  cases s with
  | none =>
    have HN := Lib.hid (next_int_bad rb ⟨#[105, 110, 116]⟩ (.func (.func 102) #[] #[.pointer (some ⟨p, 0, none⟩), .pointer (some ⟨p + 1, 0, none⟩)]) W HS.out)
    clear h
    go_enter Tryz.func75, Tryz.ntmps75
    go_upto_region 1 with fail
    rw [HW.out.1, HW.out.2]
    go_wp2_with fail
    refine HN.out.mono ?_
    rintro e w' ⟨rfl, rfl⟩
    go_wp2_with fail
    go_ret
    exact ⟨rfl, HS.out, Wrote.of_below HB.out⟩
  | some l =>
    obtain ⟨a, cap, rd, hr⟩ := HS.out
    have HN := Lib.hid (next_int rb ⟨#[105, 110, 116]⟩ l a cap rd W (IntV most l) #[] #[.pointer (some ⟨p, 0, none⟩), .pointer (some ⟨p + 1, 0, none⟩)] hr (stInt most (some l) = (0, none)) (int_read rb p (p + 1) most l a cap rd W hr k0 k1 hne))
    clear h hr
    go_enter Tryz.func75, Tryz.ntmps75
    go_upto_region 1 with fail
    rw [HW.out.1, HW.out.2]
    go_wp2_with fail
    refine HN.out.mono ?_
    rintro e w' ⟨hw, ⟨v, l', rfl, ⟨z, rfl, hz⟩, hr⟩ | ⟨rfl, hb, hz⟩⟩
    · have HH := Lib.hid (And.intro hr hw)
      have HZ := Lib.hid hz
      clear hr hw hz
      go_wp2_with fail
      go_ret
      rw [HZ.out]
      exact ⟨rfl, HH.out.1, (Wrote.of_below HB.out).trans HH.out.2⟩
    · have HH := Lib.hid (And.intro hb hw)
      have HZ := Lib.hid hz
      clear hb hw hz
      go_wp2_with fail
      go_ret
      rw [HZ.out]
      exact ⟨rfl, HH.out.1, (Wrote.of_below HB.out).trans HH.out.2⟩
end Go.Proofs.YtaifmfnmgnmgbaaGreatDoor.Txn
/- Txn: words. -/
namespace Go.Proofs.YtaifmfnmgnmgbaaGreatDoor.Txn
open Go.RowKit Go.My

def rdL (x : Rd) : List Value := [.string x.key, .int .i64 x.ver]
def wrL (x : Wr) : List Value := [.string x.key, .string x.val]
theorem bl_alloc (B : World) (o : Obj) : Below B.heap.size B (B.alloc o) := (Below.refl _ B).alloc (Nat.le_refl _) o
theorem bl_trans {A B C : World} (h : Below A.heap.size A B) (k : Below B.heap.size B C) : Below A.heap.size A C := h.trans (k.mono h.size)
def BoolL (w : World) (b : Bool) (e : Ending) (w' : World) : Prop := e = .returned (.bool b) ∧ Below w.heap.size w w'
def KeyL (w : World) (k : ByteArray) (e : Ending) (w' : World) : Prop := e = .returned (.string k) ∧ Below w.heap.size w w'
end Go.Proofs.YtaifmfnmgnmgbaaGreatDoor.Txn
