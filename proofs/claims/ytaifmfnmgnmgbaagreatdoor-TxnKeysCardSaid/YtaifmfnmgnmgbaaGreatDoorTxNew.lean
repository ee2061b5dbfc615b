/- Txn: a reader of bytes; its end. -/
import Derived.Test.YtaifmfnmgnmgbaaGreatDoorTxRd
import Derived.Maps.AppendAt
import Derived.Lib.LazyBuf
import Derived.Lib.BufferMore
import Derived.WalkLawsBesides
import Derived.Deep.QuietTactic
import Derived.BigQuiet
import Derived.StillTailTactics
namespace Go.Proofs.YtaifmfnmgnmgbaaGreatDoor.Txn
open Go.RowKit Go.My
open Go.Proofs.YtaifmfnmgnmgbaaGreatDoor.Merkle (uv byte_info map_uv_one)

theorem uv_cells {w : World} {b : Addr} {l : List UInt8} (h : LiesAt w (some b) 1 uvL l) : ∀ j u, (l.map uv)[j]? = some u → w.cell? (b.add j) = some u := by
  intro j u hj
  rw [List.getElem?_map] at hj
  obtain ⟨x, hx, rfl⟩ := Option.map_eq_some_iff.1 hj
  obtain ⟨g, o, e, hg, hc⟩ := h j x hx
  cases e
  have := hc 0 _ rfl
  rw [Nat.mul_one, Nat.add_zero] at this
  rw [Addr.add_lit]
  exact this
set_option maxRecDepth 100000 in
theorem clone_nil (w : World) : Calls Tryz.prog 67 #[.slice none 0 0] w fun e w' => e = .returned (.slice none 0 0) ∧ w' = w := by
  have hs : (binOp .eql 26 (.slice none 0 0) (.slice none 0 0)).run Tryz.prog w = .ok (.bool true) w := Lib.run_eql_slice_nil_nil w 0 0 Tryz.underlying26
  go_enter Tryz.func67, Tryz.ntmps67
  go_wp2_with fail
  go_ret
  exact ⟨rfl, rfl⟩
def CloneL (w : World) (l : List UInt8) (e : Ending) (w' : World) : Prop :=
  ∃ a' c', e = .returned (.slice a' l.length c') ∧ LiesAt w' a' 1 uvL l ∧ l.length ≤ c' ∧ c' ≤ 9223372036854775807 ∧ (∀ g o, a' = some ⟨g, o, none⟩ → l ≠ [] → g < w'.heap.size) ∧ Below w.heap.size w w'
set_option maxRecDepth 100000 in
set_option maxHeartbeats 1600000 in
theorem clone_any (a : Option Addr) (c : Nat) (l : List UInt8) (w : World) (h : LiesAt w a 1 uvL l) (hl : l.length ≤ 100000) (hnil : a = none → c = 0) :
    Calls Tryz.prog 67 #[.slice a l.length c] w (CloneL w l) := by
  obtain ⟨i0, hi0, hz0, hz1, hz2⟩ := info_parts byte_info
  have HI := Lib.hid hi0
  have HZ := Lib.hid hz0
  have HS := Lib.hid hz1
  have HY := Lib.hid hz2
  have HL := Lib.hid h
  obtain ⟨n, hn⟩ : ∃ n, n = l.length := ⟨_, rfl⟩
  have HN := Lib.hid hn
  have HNL : Hid (n ≤ 100000) := by rw [hn]; exact hl
  have hs := Lib.run_eql_slice_nil (P := Tryz.prog) w 26 5 a n c 0 0 Tryz.underlying26
  rw [← hn]
  cases a with
  | none =>
    have hz : l = [] := by
      cases l with
      | nil => rfl
      | cons x l =>
        obtain ⟨g, o, e, _⟩ := h 0 x rfl
        cases e
    obtain rfl := hnil rfl
    clear h hi0 hz0 hz1 hz2 hl hnil
    subst hz
    obtain rfl : n = 0 := HN.out
    clear HN HNL HL HI HZ HS HY
    refine (clone_nil w).mono ?_
    rintro e w' ⟨rfl, rfl⟩
    exact ⟨none, 0, rfl, LiesAt.nil _ _ _ _, Nat.le_refl _, by simp, fun g o e _ => (by cases e), Below.refl _ _⟩
  | some b =>
    have HOE : Hid (∀ W : World, w.heap.size ≤ W.heap.size → (W.alloc (.cells #[] 5)).ownsRow w.heap.size 5 1 (.slice (some ⟨W.heap.size, 0, none⟩) 0 0) 0 []) := fun W hW => ⟨by simp, .inr ⟨W.heap.size, 0, #[], rfl, hW, heap_alloc_new W _, Nat.le_refl _, by unfold maxLen; omega, by simp, by simp⟩⟩
    clear h hi0 hz0 hz1 hz2 hn hl hnil
    have hs2 : (binOp .eql 26 (.slice (some b) n c) (.slice none 0 0)).run Tryz.prog w = .ok (.bool false) w := hs
    clear hs
    go_enter Tryz.func67, Tryz.ntmps67
    go_wp2_with (at_builtin; refine wpList_append_own_at _ rfl _ _ 26 rfl w.heap.size 5 i0 (.int .u8 0) 1 1 Tryz.underlying26 HI.out HZ.out HS.out HY.out rfl (by decide) _ _ _ rfl (HOE.out w (Nat.le_refl _)) b n c (l.map uv) rfl ?c1 ?c2 (map_uv_one _) ?c4 ?c5 ?c6 ?c7)
    case c1 => rw [List.length_map, ← HN.out]; omega
    case c2 => exact uv_cells (HL.out.below (bl_alloc _ _))
    case c4 => have := HNL.out; unfold maxLen; omega
    case c5 => have := HNL.out; omega
    case c6 => simp
    case c7 =>
      intro v1 w2 hown hgrow _ _
      obtain ⟨va, vc, rfl⟩ := row_slice hown
      have HOW : Hid (w2.ownsRow w.heap.size 5 1 (.slice va n vc) n (l.flatMap uvL)) := by
        have e : l.flatMap uvL = l.map uv := flat_one uv l
        show World.ownsRow _ _ _ _ _ _ _
        rw [e]
        exact hown
      have hg2 : Wrote [w.heap.size] (w.alloc (.cells #[] 5)) w2 := by
        have := Wrote.of_grown hgrow
        simpa [Value.ownBlock] using this
      have HGR : Hid (Below w.heap.size w w2) := (((Wrote.refl [w.heap.size] w).alloc _).trans hg2).below (Nat.le_refl _) fun k hk => by simp at hk; omega
      clear hown hgrow
      go_wp2_with fail
      go_ret
      refine ⟨va, vc, by rw [← HN.out]; rfl, row_liesAt HOW.out (fun _ => rfl) HN.out, ?_, ?_, ?_, HGR.out⟩
      · rcases HOW.out with ⟨_, ⟨e, h0⟩ | ⟨g, cp, cur, e, _, _, h4, h5, _⟩⟩
        · have := HN.out; omega
        · cases e; have := HN.out; omega
      · rcases HOW.out with ⟨_, ⟨e, h0⟩ | ⟨g, cp, cur, e, _, _, h4, h5, _⟩⟩
        · cases e; omega
        · cases e; unfold maxLen at h5; omega
      · intro g o e hne
        rcases HOW.out with ⟨_, ⟨e2, h0⟩ | ⟨g2, cp, cur, e2, _, h3, _⟩⟩
        · rw [e] at e2; cases e2
        · rw [e] at e2; cases e2; exact lt_of_heap h3
set_option maxRecDepth 100000 in
set_option maxHeartbeats 1600000 in
theorem new_any (a : Option Addr) (c : Nat) (l : List UInt8) (w : World) (h : LiesAt w a 1 uvL l) (hl : l.length ≤ 100000) (hnil : a = none → c = 0) :
    Calls Tryz.prog 33 #[.slice a l.length c] w fun e w' => ∃ rb, e = .returned (.pointer (some ⟨rb, 0, none⟩)) ∧ StAt w' rb (some l) ∧ w.heap.size ≤ rb ∧ Below w.heap.size w w' := by
  have HC := Lib.hid (clone_any a c l w h hl hnil)
  have HLL := Lib.hid hl
  obtain ⟨n, hn⟩ : ∃ n, n = l.length := ⟨_, rfl⟩
  have HN := Lib.hid hn
  clear h hl hnil
  rw [← hn] at HC ⊢
  clear hn
  go_enter Tryz.func33, Tryz.ntmps33
  go_wp2_with fail
  refine HC.out.mono ?_
  rintro e w1 ⟨a', c', rfl, hl, h1, h2, h3, hb⟩
  rw [← HN.out] at h1 ⊢
  have HR : Hid (RdAt (w1.alloc (.cells #[.slice a' l.length c', .int .i64 0, .nilIface] 128)) w1.heap.size l a' c' 0) :=
    ⟨heap_alloc_new w1 _, hl.below (bl_alloc _ _), ⟨by rw [← HN.out]; exact h1, h2⟩, h3, by have := HLL.out; omega⟩
  rw [← HN.out] at HR
  have HB := Lib.hid hb
  clear hl h1 h2 h3 hb
  go_wp2_with fail
  go_ret
  exact ⟨w1.heap.size, rfl, ⟨a', c', 0, HR.out⟩, HB.out.size, HB.out.trans ((bl_alloc w1 _).mono HB.out.size)⟩
/-- what End tells -/
def EndL (w : World) (s : St) (e : Ending) (w' : World) : Prop :=
  Below w.heap.size w w' ∧ ((s = some [] ∧ e = .returned .nilIface) ∨ (s ≠ some [] ∧ ∃ T v, e = .returned (.iface T v)))
set_option maxRecDepth 100000 in
set_option maxHeartbeats 1600000 in
theorem end_any (rb : Nat) (s : St) (w : World) (h : StAt w rb s) :
    Calls Tryz.prog 40 #[.pointer (some ⟨rb, 0, none⟩)] w (EndL w s) := by
  cases s with
  | none =>
    obtain ⟨v, z, T, ev, hb⟩ := h
    have c2 : w.cell? ⟨rb, 2, none⟩ = some (.iface T ev) := by rw [cell_of_row _ _ _ _ _ _ hb]; rfl
    clear hb
    go_enter Tryz.func40, Tryz.ntmps40
    go_wp2_with fail
    go_ret
    exact ⟨Below.refl _ _, .inr ⟨by simp, T, ev, rfl⟩⟩
  | some l =>
    obtain ⟨a, cap, rd, h⟩ := h
    have c0 := h.c0
    have c1 := h.c1
    have c2 := h.c2
    have hsm := h.small
    obtain ⟨n, hn⟩ : ∃ n, n = l.length := ⟨_, rfl⟩
    have HN := Lib.hid hn
    rw [← hn] at c0 hsm
    clear h hn
    rcases Nat.eq_zero_or_pos n with h0 | h0
    · subst h0
      go_enter Tryz.func40, Tryz.ntmps40
      go_wp2_with fail
      go_ret
      exact ⟨Below.refl _ _, .inl ⟨by rw [List.length_eq_zero_iff.1 HN.out.symm], rfl⟩⟩
    · have HO := Lib.hid (fun X => of_e 22 X rfl)
      have HW := Lib.hid (fun n X => wrap_e (.int .i64 22) ⟨#[101, 110, 100]⟩ n X)
      go_enter Tryz.func40, Tryz.ntmps40
      go_wp2_with fail
      refine wp_region_quiet_lit (by kernel_rfl) (by kernel_rfl) ?_
      repeat (quiet_step ((first | (go_at_call 32; exact Calls.quiet_of_same ((HO.out _).mono fun _ _ h => ⟨h.1, h.2⟩)) | (go_at_call 68; exact Calls.quiet_of_same ((HW.out _ _).mono fun _ _ h => ⟨h.1, h.2⟩)))))
      refine wpQuiet_nil ?_
      rintro _ ⟨nq, rfl⟩
      go_wp2_with fail
      go_ret
      refine ⟨⟨rfl, rfl, rfl, by simp, fun _ _ => rfl⟩, .inr ⟨?_, _, _, rfl⟩⟩
      intro e
      cases e
      have := HN.out
      simp at this
      omega
end Go.Proofs.YtaifmfnmgnmgbaaGreatDoor.Txn
