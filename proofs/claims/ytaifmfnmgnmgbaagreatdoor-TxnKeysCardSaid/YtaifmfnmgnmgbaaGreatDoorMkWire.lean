/- Merkle: the writer's functions. -/
import Derived.Test.YtaifmfnmgnmgbaaGreatDoorChecked
import Derived.Test.YtaifmfnmgnmgbaaGreatDoorEnc
import Derived.Test.YtaifmfnmgnmgbaaGreatDoorBase
import Derived.WalkSpells
import Derived.WalkLawsBesides
import Derived.Deep.QuietTactic
import Derived.BigQuiet
import Derived.StillTailTactics
import Derived.Lib.Hide
import Derived.Lib.ConvBytes
import Derived.Lib.SlBytesRow
import Derived.Outline
import Derived.Maps.AppendAt
namespace Go.Proofs.YtaifmfnmgnmgbaaGreatDoor.Merkle
open Go.RowKit Go.My

def uv (x : UInt8) : Value := .int .u8 (x.toNat : Int)
theorem byte_info : (Tryz.prog.info? 5).map (fun i => (i.zero, i.size, i.bytes)) = some (some (.int .u8 0), 1, 1) := by kernel_rfl
/-- a row that was added to: nothing else was written -/
structure Grow (w : World) (v v' : Value) (w' : World) : Prop where
  wrote : Wrote v.ownBlock.toList w w'
  own : ∀ g, v'.ownBlock = some g → v.ownBlock = some g ∨ w.heap.size ≤ g
theorem Grow.trans {w w' w'' : World} {v v' v'' : Value} (h : Grow w v v' w') (k : Grow w' v' v'' w'') : Grow w v v'' w'' := by
  refine ⟨?_, fun g hg => ?_⟩
  · refine ((h.wrote.mono (T := v.ownBlock.toList ++ v'.ownBlock.toList) (by simp; intro a ha; exact .inl ha)).trans (k.wrote.mono (by simp; intro a ha; exact .inr ha))).of_new fun g hg => ?_
    rcases List.mem_append.1 hg with h1 | h1
    · exact .inl h1
    · rcases h.own g (by simpa using h1) with h2 | h2
      · exact .inl (by simp [h2])
      · exact .inr h2
  · rcases k.own g hg with h1 | h1
    · exact h.own g h1
    · exact .inr (Nat.le_trans h.wrote.size h1)
theorem uv_b8 (z : Int) : uv (b8 z) = .int .u8 (z % 256) := by unfold uv; rw [b8_int]
theorem be4_vals {z : Int} (h0 : 0 ≤ z) (h1 : z ≤ 65536) : (be 4 z).map uv = [.int .u8 (z / 16777216), .int .u8 (z / 65536), .int .u8 (z / 256 % 256), .int .u8 (z % 256)] := by
  have e1 : z / 256 / 256 / 256 % 256 = z / 16777216 := by omega
  have e2 : z / 256 / 256 % 256 = z / 65536 := by omega
  simp only [be, List.nil_append, List.map_cons, List.map_nil, uv_b8, e1, e2, List.cons_append]
theorem news_at (w : World) (l : List Value) (t : TypeId) : ∀ j u, l[j]? = some u → (w.alloc (.cells l.toArray t)).cell? ((⟨w.heap.size, 0, none⟩ : Addr).add j) = some u := by
  intro j u h
  rw [Addr.add_lit, Nat.zero_add, cell_of_row _ _ _ _ _ _ (heap_alloc_new w _)]
  simpa using h
theorem map_uv_one (l : List UInt8) : ∀ u ∈ l.map uv, u.oneCell' = true := by
  intro u hu
  obtain ⟨x, _, rfl⟩ := List.mem_map.1 hu
  rfl
theorem grow_of {w w1 w' : World} {v v' : Value} {n : Nat} (hb : Below w.heap.size w w1) (hg : w1.grownBy w' v.ownBlock) (ha : v'.ownBlock = v.ownBlock ∨ v'.ownBlock = some n) (hn : w.heap.size ≤ n) : Grow w v v' w' := by
  refine ⟨((Wrote.of_below hb).mono (S := []) (by simp)).trans (Wrote.of_grown hg), fun g h => ?_⟩
  rcases ha with ha | ha
  · exact .inl (by rw [← ha]; exact h)
  · rw [ha] at h
    cases h
    exact .inr hn
theorem row_lt {w : World} {base : Nat} {e : TypeId} {c : Nat} {v : Value} {n : Nat} {xs : List Value} (h : w.ownsRow base e c v n xs) : ∀ g, v.ownBlock = some g → g < w.heap.size := fun g hg => (h.lt g hg).2
def CountLeft (base : Nat) (v : Value) (l : List UInt8) (w : World) (e : Ending) (w' : World) : Prop := ∃ v', e = .returned v' ∧ w'.ownsRow base 5 1 v' l.length (l.map uv) ∧ Grow w v v' w'
set_option maxRecDepth 100000 in
set_option maxHeartbeats 1600000 in
theorem count_any (base : Nat) (v : Value) (l : List UInt8) (z : Int) (w : World) (h : w.ownsRow base 5 1 v l.length (l.map uv)) (h0 : 0 ≤ z) (h1 : z ≤ 65536) (hl : l.length ≤ 1000000) (hb : base ≤ w.heap.size) :
    Calls Tryz.prog 99 #[v, .int .i64 z] w (CountLeft base v (l ++ be 4 z) w) := by
  obtain ⟨i0, hi0, hz0, hz1, hz2⟩ := info_parts byte_info
  have HI := Lib.hid hi0
  have HZ := Lib.hid hz0
  have HS := Lib.hid hz1
  have HY := Lib.hid hz2
  have H := Lib.hid h
  have HV := Lib.hid (be4_vals h0 h1)
  clear h hi0 hz0 hz1 hz2
  go_enter Tryz.func99, Tryz.ntmps99
  go_wp2_with (at_builtin; refine wpList_append_own_at _ rfl _ _ 26 rfl base 5 i0 (.int .u8 0) 1 1 Tryz.underlying26 HI.out HZ.out HS.out HY.out rfl (by decide) _ _ _ rfl (H.out.alloc _) ⟨w.heap.size, 0, none⟩ 4 4 [.int .u8 (z / 16777216), .int .u8 (z / 65536), .int .u8 (z / 256 % 256), .int .u8 (z % 256)] rfl rfl ?c1 ?c2 ?c3 ?c4 ?c5 ?_)
  case c1 => exact news_at _ _ _
  case c2 => simp [Value.oneCell']
  case c3 => unfold maxLen; omega
  case c4 => omega
  case c5 => simp; omega
  intro v1 w3 hown1 hgrow1 _ hat
  have HE : Hid (CountLeft base v (l ++ be 4 z) w (.returned v1) w3) := ⟨v1, rfl, by rw [List.map_append, List.length_append, be_len, HV.out]; exact hown1, grow_of ((Below.refl _ _).alloc (Nat.le_refl _) _) hgrow1 hat (by omega)⟩
  clear hown1 hgrow1 hat
  go_wp2_with fail
  go_ret
  exact HE.out
def NumRel (base : Nat) (v : Value) (l : List UInt8) (w : World) (j : Nat) (q : Int) (u : Value) (wr : World) : Prop := wr.ownsRow base 5 1 u (l ++ be j q).length ((l ++ be j q).map uv) ∧ Grow w v u wr
theorem num_next {base : Nat} {v : Value} {l : List UInt8} {z : Int} {w wr w3 : World} {j n : Nat} {M D : Int} {u v1 : Value} {o : Obj} (hM : M = D * 256) (hD : 0 ≤ D) (h : NumRel base v l w j (z / M) u wr)
    (hown : w3.ownsRow base 5 1 v1 (l.length + (be j (z / M)).length + 1) (l.map uv ++ ((be j (z / M)).map uv ++ [.int .u8 (z / D % 256)]))) (hg : (wr.alloc o).grownBy w3 u.ownBlock) (ha : v1.ownBlock = u.ownBlock ∨ v1.ownBlock = some n) (hn : wr.heap.size ≤ n) : NumRel base v l w (j + 1) (z / D) v1 w3 := by
  have e : z / D / 256 = z / M := by rw [Int.ediv_ediv, if_neg (by omega), hM, Int.sub_zero]
  refine ⟨?_, h.2.trans (grow_of ((Below.refl _ _).alloc (Nat.le_refl _) o) hg ha hn)⟩
  rw [be, e, List.map_append, List.map_append, List.length_append, List.length_append, List.map_cons, List.map_nil, uv_b8, ← Nat.add_assoc]
  exact hown
set_option maxRecDepth 100000 in
set_option maxHeartbeats 3200000 in
theorem number_any (base : Nat) (v : Value) (l : List UInt8) (z : Int) (w : World) (h : w.ownsRow base 5 1 v l.length (l.map uv)) (hl : l.length ≤ 1000000) (hb : base ≤ w.heap.size) :
    Calls Tryz.prog 63 #[v, .int .i64 z] w (CountLeft base v (l ++ be 8 z) w) := by
  obtain ⟨i0, hi0, hz0, hz1, hz2⟩ := info_parts byte_info
  have HI := Lib.hid hi0
  have HZ := Lib.hid hz0
  have HS := Lib.hid hz1
  have HY := Lib.hid hz2
  have P0 : Hid (NumRel base v l w 0 (z / 18446744073709551616) v w) := ⟨by rw [be, List.append_nil]; exact h, ⟨Wrote.refl _ _, fun g hg => .inl hg⟩⟩
  clear h hi0 hz0 hz1 hz2
  go_enter Tryz.func63, Tryz.ntmps63
  go_wp2_with fail
  go_loopw [0, 5] (fun u s wr => ∃ (j : Nat) (t M : Int), j ≤ 8 ∧ s = .int .i64 t ∧ t = 56 - 8 * (j : Int) ∧ M = 256 ^ (8 - j) ∧ Hid (NumRel base v l w j (z / M) u wr)) (fun _ s _ => (intOf s + 8).toNat)
  case atStart => exact ⟨0, 56, 18446744073709551616, by omega, rfl, by omega, by decide, P0⟩
  case round =>
    clear P0
    obtain ⟨j, t, M, hj, rfl, ht, hM, HR⟩ := hrel
    by_cases e0 : j = 0
    · subst e0
      obtain rfl : t = 56 := by omega
      obtain rfl : M = 18446744073709551616 := by rw [hM]; decide
      have HB : Hid (base ≤ wr.heap.size) := Nat.le_trans hb HR.out.2.wrote.size
      clear ht hj hM
      go_wp2_with (at_builtin; refine wpList_append_own_at _ rfl _ _ 26 rfl base 5 i0 (.int .u8 0) 1 1 Tryz.underlying26 HI.out HZ.out HS.out HY.out rfl (by decide) _ _ _ rfl (HR.out.1.alloc _) ⟨wr.heap.size, 0, none⟩ 1 1 [.int .u8 (z / 72057594037927936 % 256)] rfl rfl ?c01 ?c02 ?c03 ?c04 ?c05 ?_)
      case c01 => exact cell_one_new _ _ _
      case c02 => simp [Value.oneCell']
      case c03 => rw [List.length_append, be_len]; unfold maxLen; omega
      case c04 => rw [List.length_append, be_len]; omega
      case c05 => have := HB.out; simp; omega
      intro v1 w3 hown1 hgrow1 _ hat
      have HNX : Hid (NumRel base v l w 1 (z / 72057594037927936) v1 w3) := num_next (D := 72057594037927936) (by decide) (by decide) HR.out hown1 hgrow1 hat (by omega)
      clear hown1 hgrow1 hat
      go_wp2_with fail
      go_roundw
      case rel => exact ⟨1, 48, 72057594037927936, by omega, by go_num, by omega, by decide, HNX⟩
      case measure => simp [intOf]
    by_cases e1 : j = 1
    · subst e1
      obtain rfl : t = 48 := by omega
      obtain rfl : M = 72057594037927936 := by rw [hM]; decide
      have HB : Hid (base ≤ wr.heap.size) := Nat.le_trans hb HR.out.2.wrote.size
      clear ht hj hM
      go_wp2_with (at_builtin; refine wpList_append_own_at _ rfl _ _ 26 rfl base 5 i0 (.int .u8 0) 1 1 Tryz.underlying26 HI.out HZ.out HS.out HY.out rfl (by decide) _ _ _ rfl (HR.out.1.alloc _) ⟨wr.heap.size, 0, none⟩ 1 1 [.int .u8 (z / 281474976710656 % 256)] rfl rfl ?c11 ?c12 ?c13 ?c14 ?c15 ?_)
      case c11 => exact cell_one_new _ _ _
      case c12 => simp [Value.oneCell']
      case c13 => rw [List.length_append, be_len]; unfold maxLen; omega
      case c14 => rw [List.length_append, be_len]; omega
      case c15 => have := HB.out; simp; omega
      intro v1 w3 hown1 hgrow1 _ hat
      have HNX : Hid (NumRel base v l w 2 (z / 281474976710656) v1 w3) := num_next (D := 281474976710656) (by decide) (by decide) HR.out hown1 hgrow1 hat (by omega)
      clear hown1 hgrow1 hat
      go_wp2_with fail
      go_roundw
      case rel => exact ⟨2, 40, 281474976710656, by omega, by go_num, by omega, by decide, HNX⟩
      case measure => simp [intOf]
    by_cases e2 : j = 2
    · subst e2
      obtain rfl : t = 40 := by omega
      obtain rfl : M = 281474976710656 := by rw [hM]; decide
      have HB : Hid (base ≤ wr.heap.size) := Nat.le_trans hb HR.out.2.wrote.size
      clear ht hj hM
      go_wp2_with (at_builtin; refine wpList_append_own_at _ rfl _ _ 26 rfl base 5 i0 (.int .u8 0) 1 1 Tryz.underlying26 HI.out HZ.out HS.out HY.out rfl (by decide) _ _ _ rfl (HR.out.1.alloc _) ⟨wr.heap.size, 0, none⟩ 1 1 [.int .u8 (z / 1099511627776 % 256)] rfl rfl ?c21 ?c22 ?c23 ?c24 ?c25 ?_)
      case c21 => exact cell_one_new _ _ _
      case c22 => simp [Value.oneCell']
      case c23 => rw [List.length_append, be_len]; unfold maxLen; omega
      case c24 => rw [List.length_append, be_len]; omega
      case c25 => have := HB.out; simp; omega
      intro v1 w3 hown1 hgrow1 _ hat
      have HNX : Hid (NumRel base v l w 3 (z / 1099511627776) v1 w3) := num_next (D := 1099511627776) (by decide) (by decide) HR.out hown1 hgrow1 hat (by omega)
      clear hown1 hgrow1 hat
      go_wp2_with fail
      go_roundw
      case rel => exact ⟨3, 32, 1099511627776, by omega, by go_num, by omega, by decide, HNX⟩
      case measure => simp [intOf]
    by_cases e3 : j = 3
    · subst e3
      obtain rfl : t = 32 := by omega
      obtain rfl : M = 1099511627776 := by rw [hM]; decide
      have HB : Hid (base ≤ wr.heap.size) := Nat.le_trans hb HR.out.2.wrote.size
      clear ht hj hM
      go_wp2_with (at_builtin; refine wpList_append_own_at _ rfl _ _ 26 rfl base 5 i0 (.int .u8 0) 1 1 Tryz.underlying26 HI.out HZ.out HS.out HY.out rfl (by decide) _ _ _ rfl (HR.out.1.alloc _) ⟨wr.heap.size, 0, none⟩ 1 1 [.int .u8 (z / 4294967296 % 256)] rfl rfl ?c31 ?c32 ?c33 ?c34 ?c35 ?_)
      case c31 => exact cell_one_new _ _ _
      case c32 => simp [Value.oneCell']
      case c33 => rw [List.length_append, be_len]; unfold maxLen; omega
      case c34 => rw [List.length_append, be_len]; omega
      case c35 => have := HB.out; simp; omega
      intro v1 w3 hown1 hgrow1 _ hat
      have HNX : Hid (NumRel base v l w 4 (z / 4294967296) v1 w3) := num_next (D := 4294967296) (by decide) (by decide) HR.out hown1 hgrow1 hat (by omega)
      clear hown1 hgrow1 hat
      go_wp2_with fail
      go_roundw
      case rel => exact ⟨4, 24, 4294967296, by omega, by go_num, by omega, by decide, HNX⟩
      case measure => simp [intOf]
    by_cases e4 : j = 4
    · subst e4
      obtain rfl : t = 24 := by omega
      obtain rfl : M = 4294967296 := by rw [hM]; decide
      have HB : Hid (base ≤ wr.heap.size) := Nat.le_trans hb HR.out.2.wrote.size
      clear ht hj hM
      go_wp2_with (at_builtin; refine wpList_append_own_at _ rfl _ _ 26 rfl base 5 i0 (.int .u8 0) 1 1 Tryz.underlying26 HI.out HZ.out HS.out HY.out rfl (by decide) _ _ _ rfl (HR.out.1.alloc _) ⟨wr.heap.size, 0, none⟩ 1 1 [.int .u8 (z / 16777216 % 256)] rfl rfl ?c41 ?c42 ?c43 ?c44 ?c45 ?_)
      case c41 => exact cell_one_new _ _ _
      case c42 => simp [Value.oneCell']
      case c43 => rw [List.length_append, be_len]; unfold maxLen; omega
      case c44 => rw [List.length_append, be_len]; omega
      case c45 => have := HB.out; simp; omega
      intro v1 w3 hown1 hgrow1 _ hat
      have HNX : Hid (NumRel base v l w 5 (z / 16777216) v1 w3) := num_next (D := 16777216) (by decide) (by decide) HR.out hown1 hgrow1 hat (by omega)
      clear hown1 hgrow1 hat
      go_wp2_with fail
      go_roundw
      case rel => exact ⟨5, 16, 16777216, by omega, by go_num, by omega, by decide, HNX⟩
      case measure => simp [intOf]
    by_cases e5 : j = 5
    · subst e5
      obtain rfl : t = 16 := by omega
      obtain rfl : M = 16777216 := by rw [hM]; decide
      have HB : Hid (base ≤ wr.heap.size) := Nat.le_trans hb HR.out.2.wrote.size
      clear ht hj hM
      go_wp2_with (at_builtin; refine wpList_append_own_at _ rfl _ _ 26 rfl base 5 i0 (.int .u8 0) 1 1 Tryz.underlying26 HI.out HZ.out HS.out HY.out rfl (by decide) _ _ _ rfl (HR.out.1.alloc _) ⟨wr.heap.size, 0, none⟩ 1 1 [.int .u8 (z / 65536 % 256)] rfl rfl ?c51 ?c52 ?c53 ?c54 ?c55 ?_)
      case c51 => exact cell_one_new _ _ _
      case c52 => simp [Value.oneCell']
      case c53 => rw [List.length_append, be_len]; unfold maxLen; omega
      case c54 => rw [List.length_append, be_len]; omega
      case c55 => have := HB.out; simp; omega
      intro v1 w3 hown1 hgrow1 _ hat
      have HNX : Hid (NumRel base v l w 6 (z / 65536) v1 w3) := num_next (D := 65536) (by decide) (by decide) HR.out hown1 hgrow1 hat (by omega)
      clear hown1 hgrow1 hat
      go_wp2_with fail
      go_roundw
      case rel => exact ⟨6, 8, 65536, by omega, by go_num, by omega, by decide, HNX⟩
      case measure => simp [intOf]
    by_cases e6 : j = 6
    · subst e6
      obtain rfl : t = 8 := by omega
      obtain rfl : M = 65536 := by rw [hM]; decide
      have HB : Hid (base ≤ wr.heap.size) := Nat.le_trans hb HR.out.2.wrote.size
      clear ht hj hM
      go_wp2_with (at_builtin; refine wpList_append_own_at _ rfl _ _ 26 rfl base 5 i0 (.int .u8 0) 1 1 Tryz.underlying26 HI.out HZ.out HS.out HY.out rfl (by decide) _ _ _ rfl (HR.out.1.alloc _) ⟨wr.heap.size, 0, none⟩ 1 1 [.int .u8 (z / 256 % 256)] rfl rfl ?c61 ?c62 ?c63 ?c64 ?c65 ?_)
      case c61 => exact cell_one_new _ _ _
      case c62 => simp [Value.oneCell']
      case c63 => rw [List.length_append, be_len]; unfold maxLen; omega
      case c64 => rw [List.length_append, be_len]; omega
      case c65 => have := HB.out; simp; omega
      intro v1 w3 hown1 hgrow1 _ hat
      have HNX : Hid (NumRel base v l w 7 (z / 256) v1 w3) := num_next (D := 256) (by decide) (by decide) HR.out hown1 hgrow1 hat (by omega)
      clear hown1 hgrow1 hat
      go_wp2_with fail
      go_roundw
      case rel => exact ⟨7, 0, 256, by omega, by go_num, by omega, by decide, HNX⟩
      case measure => simp [intOf]
    by_cases e7 : j = 7
    · subst e7
      obtain rfl : t = 0 := by omega
      obtain rfl : M = 256 := by rw [hM]; decide
      have HB : Hid (base ≤ wr.heap.size) := Nat.le_trans hb HR.out.2.wrote.size
      clear ht hj hM
      go_wp2_with (at_builtin; refine wpList_append_own_at _ rfl _ _ 26 rfl base 5 i0 (.int .u8 0) 1 1 Tryz.underlying26 HI.out HZ.out HS.out HY.out rfl (by decide) _ _ _ rfl (HR.out.1.alloc _) ⟨wr.heap.size, 0, none⟩ 1 1 [.int .u8 (z % 256)] rfl rfl ?c71 ?c72 ?c73 ?c74 ?c75 ?_)
      case c71 => exact cell_one_new _ _ _
      case c72 => simp [Value.oneCell']
      case c73 => rw [List.length_append, be_len]; unfold maxLen; omega
      case c74 => rw [List.length_append, be_len]; omega
      case c75 => have := HB.out; simp; omega
      intro v1 w3 hown1 hgrow1 _ hat
      have HNX : Hid (NumRel base v l w 8 (z / 1) v1 w3) := num_next (D := 1) (by decide) (by decide) HR.out (by simpa using hown1) hgrow1 hat (by omega)
      clear hown1 hgrow1 hat
      go_wp2_with fail
      go_roundw
      case rel => exact ⟨8, -8, 1, by omega, by go_num, by omega, by decide, HNX⟩
      case measure => simp [intOf]
    obtain rfl : j = 8 := by omega
    obtain rfl : t = -8 := by omega
    have HE : Hid (CountLeft base v (l ++ be 8 z) w (.returned u0) wr) := by
      have h := HR.out
      have e : M = 1 := by rw [hM]; decide
      rw [e, Int.ediv_one] at h
      exact ⟨u0, rfl, h.1, h.2⟩
    clear ht hj hM
    go_wp2_with fail
    go_ret
    exact HE.out
/-! ### number: end -/
end Go.Proofs.YtaifmfnmgnmgbaaGreatDoor.Merkle
